/- Sor, Soh, Sqe -/
import Derived.Test.YteglbjcdlekbpaaGreatZSeqf
import Derived.Test.YteglbjcdlekbpaaGreatZDicta
import Derived.Test.YteglbjcdlekbpaaGreatZSeqd
/- Walks: seq.letters, same, held; obj.Less. -/
namespace Go.Proofs.YteglbjcdlekbpaaGreat
open Go.RowKit

theorem as_text_nil (W : World) : (Instr.typeAssert .nilIface 179 181 true).run Tryz.prog W = .ok (.tuple #[.string ⟨#[]⟩, .bool false]) W := by kernel_rfl
set_option maxRecDepth 100000 in
theorem less_any (a b : O) (ha : (sizeO a).2 = true) (hb : (sizeO b).2 = true) (w : World) :
    Calls Tryz.prog 151 #[a.val, b.val] w fun e w' => e = .returned (.tuple #[.bool (decide ((sizeO a).1 < (sizeO b).1)), .bool true]) ∧ Chg NoB w w' := by
  have HN := hid' (fun w' => onumbers_any a b w')
  rw [ha, hb] at HN
  generalize (sizeO a).1 = x at *
  generalize (sizeO b).1 = y at *
  clear ha hb
  obtain ⟨k, ex, n, c, le, s⟩ := a
  obtain ⟨k', ex', n', c', le', s'⟩ := b
  have X1 := ((Chg.refl NoB w).alloc (.cells #[.int .i64 k, .bool ex, .int .i64 n, .int .i64 c, .int .i64 le, .string s] 38)).alloc (.cells #[.int .i64 k', .bool ex', .int .i64 n', .int .i64 c', .int .i64 le', .string s'] 38)
  go_enter Tryz.func151, Tryz.ntmps151
  go_wp2_with fail
  refine (HN.out _).mono ?_
  rintro e w2 ⟨rfl, hb2⟩
  go_wp2_with fail
  go_ret2
  exact ⟨by simp, X1.pure hb2⟩
set_option maxRecDepth 100000 in
theorem letters_str {w0 w : World} {hp : Nat} {L : List C} {M : List (Nat × List C)} {K : List (Nat × Obj)} (A : Ats w0 w M K) (hm : (hp, L) ∈ M) (o : O) (hk : o.kind = 8) (b : ByteArray) (e : Int) (hb : bytesH L o = (b, e)) :
    Calls Tryz.prog 149 #[ptr hp, o.val] w fun r w' => r = .returned (.tuple #[.string b, .bool true]) ∧ Ats w0 w' M K := by
  have HI := hid' (fun (w' : World) (K' : List (Nat × Obj)) (A' : Ats w0 w' M K') => inside_str A' hm o hk b e hb)
  have TA := as_text
  obtain ⟨kk, kx, kn, kp, kl, ks⟩ := o
  have A1 := A.alloc (.cells #[.int .i64 kk, .bool kx, .int .i64 kn, .int .i64 kp, .int .i64 kl, .string ks] 38)
  clear A hb hm hk
  go_enter Tryz.func149, Tryz.ntmps149
  go_wp2_with fail
  refine (HI.out _ _ A1).mono ?_
  rintro r w2 ⟨rfl, A2⟩
  go_wp2_with fail
  go_ret2
  exact ⟨rfl, A2.keep (List.sublist_cons_self _ _)⟩
set_option maxRecDepth 100000 in
theorem letters_num {w0 w : World} {hp : Nat} {M : List (Nat × List C)} {K : List (Nat × Obj)} (A : Ats w0 w M K) (o : O) (hk : o.kind = 3 ∨ o.kind = 4) :
    Calls Tryz.prog 149 #[ptr hp, o.val] w fun r w' => r = .returned (.tuple #[.string o.s, .bool false]) ∧ Ats w0 w' M K := by
  have HI := hid' (fun (w' : World) (K' : List (Nat × Obj)) (A' : Ats w0 w' M K') => inside_num (hp := hp) A' o hk)
  have TA := as_text_nil
  obtain ⟨kk, kx, kn, kp, kl, ks⟩ := o
  have d5 : (kk == 5) = false := by simp only at hk; rcases hk with rfl | rfl <;> rfl
  have A1 := A.alloc (.cells #[.int .i64 kk, .bool kx, .int .i64 kn, .int .i64 kp, .int .i64 kl, .string ks] 38)
  clear A hk
  go_enter Tryz.func149, Tryz.ntmps149
  go_wp2_with fail
  refine (HI.out _ _ A1).mono ?_
  rintro r w2 ⟨rfl, A2⟩
  (try clear Ra); (try clear ya); (try clear Za)
  have Ra := cells_of (A2.box _ m0)
  have ya := blk_lt (A2.box _ m0)
  (try simp only at Ra ya)
  go_upto_region 5 with (fail)
  go_quiet (fail)
  have A3 := A2.pure ((Chg.refl NoB w2).drewN nq)
  generalize w2.drewN nq = w3 at *
  go_wp2_with fail
  go_ret2
  exact ⟨rfl, A3.keep (List.sublist_cons_self _ _)⟩
/-- eq. -/
theorem same_str {w0 w : World} {hp : Nat} {L : List C} {M : List (Nat × List C)} {K : List (Nat × Obj)} (A : Ats w0 w M K) (hm : (hp, L) ∈ M) (a b : O) (ka : a.kind = 8) (kb : b.kind = 8) (x y : ByteArray) (ea eb : Int) (hx : bytesH L a = (x, ea)) (hy : bytesH L b = (y, eb)) :
    Calls Tryz.prog 102 #[ptr hp, a.val, b.val] w fun r w' => r = .returned (.bool (x.toList == y.toList)) ∧ Ats w0 w' M K := by
  have HX := hid' (fun (w' : World) (K' : List (Nat × Obj)) (A' : Ats w0 w' M K') => letters_str A' hm a ka x ea hx)
  have HY := hid' (fun (w' : World) (K' : List (Nat × Obj)) (A' : Ats w0 w' M K') => letters_str A' hm b kb y eb hy)
  obtain ⟨uk, ux, un, up, ul, us⟩ := a
  obtain ⟨vk, vx, vn, vp, vl, vs⟩ := b
  simp only at ka kb
  subst ka kb
  have A1 := (A.alloc (.cells #[.int .i64 8, .bool ux, .int .i64 un, .int .i64 up, .int .i64 ul, .string us] 38)).alloc (.cells #[.int .i64 8, .bool vx, .int .i64 vn, .int .i64 vp, .int .i64 vl, .string vs] 38)
  simp only [World.size_alloc] at A1
  clear A hx hy hm
  go_enter Tryz.func102, Tryz.ntmps102
  go_wp2_with fail
  refine (HX.out _ _ A1).mono ?_
  rintro r w2 ⟨rfl, A2⟩
  (try clear Rb); (try clear yb); (try clear Zb)
  have Rb := cells_of (A2.box _ m0)
  have yb := blk_lt (A2.box _ m0)
  (try clear Ra); (try clear ya); (try clear Za)
  have Ra := cells_of (A2.box _ m1)
  have ya := blk_lt (A2.box _ m1)
  (try simp only at Rb yb Ra ya)
  go_wp2_with fail
  refine (HY.out _ _ A2).mono ?_
  rintro r w3 ⟨rfl, A3⟩
  (try clear Rb); (try clear yb); (try clear Zb)
  have Rb := cells_of (A3.box _ m0)
  have yb := blk_lt (A3.box _ m0)
  (try clear Ra); (try clear ya); (try clear Za)
  have Ra := cells_of (A3.box _ m1)
  have ya := blk_lt (A3.box _ m1)
  (try simp only at Rb yb Ra ya)
  go_wp2_with fail
  go_ret
  exact ⟨rfl, A3.keep ((List.sublist_cons_self _ _).trans (List.sublist_cons_self _ _))⟩
theorem same_num {w0 w : World} {hp : Nat} {M : List (Nat × List C)} {K : List (Nat × Obj)} (A : Ats w0 w M K) (a b : O) (ka : a.kind = 3 ∨ a.kind = 4) (kb : b.kind = 3 ∨ b.kind = 4) :
    Calls Tryz.prog 102 #[ptr hp, a.val, b.val] w fun r w' => r = .returned (.bool (sameO a b)) ∧ Ats w0 w' M K := by
  have HX := hid' (fun (w' : World) (K' : List (Nat × Obj)) (A' : Ats w0 w' M K') => letters_num (hp := hp) A' a ka)
  have HY := hid' (fun (w' : World) (K' : List (Nat × Obj)) (A' : Ats w0 w' M K') => letters_num (hp := hp) A' b kb)
  have HS := hid' (fun w' => osame_any a b w')
  generalize sameO a b = sv at *
  obtain ⟨uk, ux, un, up, ul, us⟩ := a
  obtain ⟨vk, vx, vn, vp, vl, vs⟩ := b
  have A1 := (A.alloc (.cells #[.int .i64 uk, .bool ux, .int .i64 un, .int .i64 up, .int .i64 ul, .string us] 38)).alloc (.cells #[.int .i64 vk, .bool vx, .int .i64 vn, .int .i64 vp, .int .i64 vl, .string vs] 38)
  simp only [World.size_alloc] at A1
  clear A ka kb
  go_enter Tryz.func102, Tryz.ntmps102
  go_wp2_with fail
  refine (HX.out _ _ A1).mono ?_
  rintro r w2 ⟨rfl, A2⟩
  (try clear Rb); (try clear yb); (try clear Zb)
  have Rb := cells_of (A2.box _ m0)
  have yb := blk_lt (A2.box _ m0)
  (try clear Ra); (try clear ya); (try clear Za)
  have Ra := cells_of (A2.box _ m1)
  have ya := blk_lt (A2.box _ m1)
  (try simp only at Rb yb Ra ya)
  go_wp2_with fail
  refine (HY.out _ _ A2).mono ?_
  rintro r w3 ⟨rfl, A3⟩
  (try clear Rb); (try clear yb); (try clear Zb)
  have Rb := cells_of (A3.box _ m0)
  have yb := blk_lt (A3.box _ m0)
  (try clear Ra); (try clear ya); (try clear Za)
  have Ra := cells_of (A3.box _ m1)
  have ya := blk_lt (A3.box _ m1)
  (try simp only at Rb yb Ra ya)
  go_wp2_with fail
  refine (HS.out _).mono ?_
  rintro r w4 ⟨rfl, X4⟩
  go_wp2_with fail
  go_ret
  exact ⟨rfl, (A3.pure X4).keep ((List.sublist_cons_self _ _).trans (List.sublist_cons_self _ _))⟩
end Go.Proofs.YteglbjcdlekbpaaGreat
/- Walks: seq.held: gt, ge, lt, le. -/
namespace Go.Proofs.YteglbjcdlekbpaaGreat
open Go.RowKit

/-- Operands and boxes, for a drawn region to hold that leaves them. -/
def KS (w0 : World) (M : List (Nat × List C)) (KB : List (Nat × Obj)) (sp : Nat) (l : List O) (W : World) : Prop := StkAt w0 W M KB sp l
theorem KS.drew {w0 W : World} {M : List (Nat × List C)} {KB : List (Nat × Obj)} {sp : Nat} {l : List O} (h : KS w0 M KB sp l W) : KS w0 M KB sp l W.drew := StkAt.drew h
theorem KS.pure {w0 W W' : World} {M : List (Nat × List C)} {KB : List (Nat × Obj)} {sp : Nat} {l : List O} (h : KS w0 M KB sp l W) (X : Chg NoB W W') : KS w0 M KB sp l W' := StkAt.pure h X
theorem KS.cells {w0 : World} {M : List (Nat × List C)} {KB : List (Nat × Obj)} {sp g : Nat} {l : List O} {cs : Array Value} {T : TypeId} {fz : Nat × Nat} (hm : (g, Obj.cells cs T fz) ∈ KB) : ∀ W, KS w0 M KB sp l W → ∀ i, W.cell? ⟨g, i, none⟩ = cs[i]? := fun _ h => cells_of (StkAt.box h _ hm)
/-- What the operator with the number n says of 'less' and 'more'. -/
def cmpB (n : Int) (le mo : Bool) : Bool := if n = 42 then mo else if n = 43 then !le else if n = 45 then !mo else le
set_option maxRecDepth 100000 in
set_option maxHeartbeats 2000000 in
theorem held_txt {w0 w : World} {M : List (Nat × List C)} {K : List (Nat × Obj)} {sp hp : Nat} {l : List O} {L : List C} {a b : O} {x y : ByteArray} {ea eb : Int} (S : StkAt w0 w M K sp (l ++ [a, b])) (hm : (hp, L) ∈ M) (ka : a.kind = 8) (kb : b.kind = 8) (hH : HeldAll L [a, b]) (hx : bytesH L a = (x, ea)) (hy : bytesH L b = (y, eb)) (hl : l.length + 1 ≤ 200) (n : Int) (hn : n = 42 ∨ n = 43 ∨ n = 44 ∨ n = 45) (v : Bool) (hv : cmpB n (Op.bytesLess x.toList y.toList) (!(Op.bytesLess x.toList y.toList || x.toList == y.toList)) = v) :
    Calls Tryz.prog 103 #[ptr hp, ptr sp, .int .i64 n] w fun r w' => r = .returned (.int .i64 0) ∧ StkAt w0 w' M K sp (l ++ [bO v]) := by
  have HT := hid' (fun (w' : World) (g : Nat) (K' : List (Nat × Obj)) (S' : StkAt w0 w' M ((g, .cells #[.int .i64 (-1), .int .i64 280] 3) :: K') sp (l ++ [a, b])) => hand_take S' [-1, 280] g m0 rfl (fun i k o h1 h2 => by
    rcases i with _ | _ | i
    · simp at h1 h2; subst h1 h2; rw [ka]; decide +kernel
    · simp at h1 h2; subst h1 h2; rw [kb]; decide +kernel
    · simp at h1) 2 rfl)
  have HF := hid' (fun (w' : World) (g : Nat) (K' : List (Nat × Obj)) (S' : StkAt w0 w' M ((g, .cells #[.int .i64 256, .int .i64 256] 3) :: K') sp (l ++ [a, b])) => hand_from S' hm [256, 256] g m0 rfl (fun i k o h1 h2 => by
    rcases i with _ | _ | i
    · simp at h1 h2; subst h1 h2; rw [ka]; decide +kernel
    · simp at h1 h2; subst h1 h2; rw [kb]; decide +kernel
    · simp at h1) hH 2 rfl)
  have HI := hid' (fun (w' : World) (K' : List (Nat × Obj)) (S' : StkAt w0 w' M K' sp (l ++ [a, b])) => S'.ask (r := .iface 181 (.string x)) (fun K2 A => inside_str A hm a ka x ea hx))
  have HBY := hid' (fun (w' : World) (K' : List (Nat × Obj)) (S' : StkAt w0 w' M K' sp (l ++ [a, b])) => S'.ask (r := .tuple #[.string y, .int .i64 eb]) (fun K2 A => at_bytes A b hy hm))
  have HTR := hid' (fun (b : Bool) w' => truth_b b w')
  have HG := hid' (fun (W : World) (g : Nat) (K' : List (Nat × Obj)) (cur : Array Value) (hc : cur.toList = [bO v].flatMap O.cells) (S' : StkAt w0 W M ((g, .cells cur 38) :: K') sp (l ++ [a, b])) => giveB S' hc 2 rfl 1 rfl hl (fun o ho => by
    simp only [List.mem_cons, List.not_mem_nil, or_false] at ho
    subst ho; cases v <;> decide +kernel))
  have TA := as_text
  have S1 := S.alloc (.cells #[.int .i64 (-1), .int .i64 280] 3)
  obtain ⟨uk, ux, un, up, ul, us⟩ := a
  obtain ⟨vk, vx, vn, vp, vl, vs⟩ := b
  simp only at ka kb
  subst ka kb
  have HV := hid' hv
  have HN := hid' hn
  clear S hm hH hx hy hl hv hn
  go_enter Tryz.func103, Tryz.ntmps103
  go_wp2_with fail
  refine (HT.out _ _ _ S1).mono ?_
  rintro r w2 ⟨g, cur, rfl, hc, S2⟩
  obtain ⟨p0, p1, p2, p3, p4, p5⟩ := at6 hc (m := 1) rfl
  simp only [Nat.one_mul, Nat.reduceAdd] at p0 p1 p2 p3 p4 p5
  clear S1
  (try clear Rg); (try clear yg); (try clear Zg)
  have Rg := cells_of (S2.box _ m0)
  have yg := blk_lt (S2.box _ m0)
  (try simp only at Rg yg)
  go_upto_region 7 with (fail)
  have S3 := S2.alloc (.cells #[.int .i64 256, .int .i64 256] 3)
  go_wp2_with fail
  refine (HF.out _ _ _ S3).mono ?_
  clear S2 S3 p0 p1 p2 p3 p4 p5 hc Rg yg HT
  rintro r w4 ⟨g', cur', rfl, hc, S4⟩
  obtain ⟨q0, q1, q2, q3, q4, q5⟩ := at6 hc (m := 0) rfl
  obtain ⟨p0, p1, p2, p3, p4, p5⟩ := at6 hc (m := 1) rfl
  simp only [Nat.zero_mul, Nat.zero_add, Nat.one_mul, Nat.reduceAdd] at q0 q1 q2 q3 q4 q5 p0 p1 p2 p3 p4 p5
  (try clear Rg); (try clear yg); (try clear Zg)
  have Rg := cells_of (S4.box _ m0)
  have yg := blk_lt (S4.box _ m0)
  (try simp only at Rg yg)
  go_wp2_with fail
  refine (HI.out _ _ S4).mono ?_
  rintro r w5 ⟨rfl, S5⟩
  clear S4 Rg yg
  (try clear Rg); (try clear yg); (try clear Zg)
  have Rg := cells_of (S5.box _ m0)
  have yg := blk_lt (S5.box _ m0)
  (try simp only at Rg yg)
  go_wp2_with fail
  refine (HBY.out _ _ S5).mono ?_
  rintro r w6 ⟨rfl, S6⟩
  clear S5 Rg yg HI HBY HF TA
  generalize hle : Op.bytesLess x.toList y.toList = le at *
  generalize heq : (x.toList == y.toList) = eq at *
  rcases HN.out with rfl | rfl | rfl | rfl <;> cases le <;> cases eq
  all_goals
    have hvv := HV.out
    simp [cmpB] at hvv
    subst hvv
    clear HV HN
    go_wp2_with fail
    refine (HTR.out _ _).mono ?_
    rintro r w7 ⟨rfl, X7⟩
    have S7 := S6.pure X7
    clear S6 X7
    go_wp2_with fail
    refine (HG.out _ _ _ _ ?_ (S7.alloc _)).mono ?_
    · rfl
    rintro r w8 ⟨rfl, S8⟩
    go_wp2_with fail
    go_ret
    exact ⟨rfl, S8.keep ((((List.sublist_cons_self _ _).trans (List.sublist_cons_self _ _)).trans (List.sublist_cons_self _ _)).trans (List.sublist_cons_self _ _))⟩
set_option maxRecDepth 100000 in
set_option maxHeartbeats 2000000 in
theorem held_num {w0 w : World} {M : List (Nat × List C)} {K : List (Nat × Obj)} {sp hp : Nat} {l : List O} {L : List C} {a b : O} (S : StkAt w0 w M K sp (l ++ [a, b])) (hm : (hp, L) ∈ M) (ka : a.kind = 3) (kb : b.kind = 4) (hH : HeldAll L [a, b]) (ha : (sizeO a).2 = true) (hb : (sizeO b).2 = true) (hl : l.length + 1 ≤ 200) (n : Int) (hn : n = 42 ∨ n = 43 ∨ n = 44 ∨ n = 45) (v : Bool) (hv : cmpB n (decide ((sizeO a).1 < (sizeO b).1)) (decide ((sizeO b).1 < (sizeO a).1)) = v) :
    Calls Tryz.prog 103 #[ptr hp, ptr sp, .int .i64 n] w fun r w' => r = .returned (.int .i64 0) ∧ StkAt w0 w' M K sp (l ++ [bO v]) := by
  have HT := hid' (fun (w' : World) (g : Nat) (K' : List (Nat × Obj)) (S' : StkAt w0 w' M ((g, .cells #[.int .i64 (-1), .int .i64 280] 3) :: K') sp (l ++ [a, b])) => hand_take S' [-1, 280] g m0 rfl (fun i k o h1 h2 => by
    rcases i with _ | _ | i
    · simp at h1 h2; subst h1 h2; rw [ka]; decide +kernel
    · simp at h1 h2; subst h1 h2; rw [kb]; decide +kernel
    · simp at h1) 2 rfl)
  have HF := hid' (fun (w' : World) (g : Nat) (K' : List (Nat × Obj)) (S' : StkAt w0 w' M ((g, .cells #[.int .i64 24, .int .i64 24] 3) :: K') sp (l ++ [a, b])) => hand_from S' hm [24, 24] g m0 rfl (fun i k o h1 h2 => by
    rcases i with _ | _ | i
    · simp at h1 h2; subst h1 h2; rw [ka]; decide +kernel
    · simp at h1 h2; subst h1 h2; rw [kb]; decide +kernel
    · simp at h1) hH 2 rfl)
  have HI := hid' (fun (w' : World) (K' : List (Nat × Obj)) (S' : StkAt w0 w' M K' sp (l ++ [a, b])) => S'.ask (r := .nilIface) (fun K2 A => inside_num (hp := hp) A a (.inl ka)))
  have HL1 := hid' (fun w' => less_any a b ha hb w')
  have HL2 := hid' (fun w' => less_any b a hb ha w')
  have HTR := hid' (fun (b : Bool) w' => truth_b b w')
  have HG := hid' (fun (W : World) (g : Nat) (K' : List (Nat × Obj)) (cur : Array Value) (hc : cur.toList = [bO v].flatMap O.cells) (S' : StkAt w0 W M ((g, .cells cur 38) :: K') sp (l ++ [a, b])) => giveB S' hc 2 rfl 1 rfl hl (fun o ho => by
    simp only [List.mem_cons, List.not_mem_nil, or_false] at ho
    subst ho; cases v <;> decide +kernel))
  generalize hle : decide ((sizeO a).1 < (sizeO b).1) = le at *
  generalize hmo : decide ((sizeO b).1 < (sizeO a).1) = mo at *
  have TA := as_text_nil
  have S1 := S.alloc (.cells #[.int .i64 (-1), .int .i64 280] 3)
  obtain ⟨uk, ux, un, up, ul, us⟩ := a
  obtain ⟨vk, vx, vn, vp, vl, vs⟩ := b
  simp only at ka kb
  subst ka kb
  have HV := hid' hv
  have HN := hid' hn
  clear S hm hH hl hv hn ha hb hle hmo
  go_enter Tryz.func103, Tryz.ntmps103
  go_wp2_with fail
  refine (HT.out _ _ _ S1).mono ?_
  rintro r w2 ⟨g, cur, rfl, hc, S2⟩
  obtain ⟨p0, p1, p2, p3, p4, p5⟩ := at6 hc (m := 1) rfl
  simp only [Nat.one_mul, Nat.reduceAdd] at p0 p1 p2 p3 p4 p5
  clear S1
  (try clear Rg); (try clear yg); (try clear Zg)
  have Rg := cells_of (S2.box _ m0)
  have yg := blk_lt (S2.box _ m0)
  (try simp only at Rg yg)
  go_upto_region 7 with (fail)
  have S3 := S2.alloc (.cells #[.int .i64 24, .int .i64 24] 3)
  go_wp2_with fail
  refine (HF.out _ _ _ S3).mono ?_
  clear S2 S3 p0 p1 p2 p3 p4 p5 hc Rg yg HT
  rintro r w4 ⟨g', cur', rfl, hc, S4⟩
  obtain ⟨q0, q1, q2, q3, q4, q5⟩ := at6 hc (m := 0) rfl
  obtain ⟨p0, p1, p2, p3, p4, p5⟩ := at6 hc (m := 1) rfl
  simp only [Nat.zero_mul, Nat.zero_add, Nat.one_mul, Nat.reduceAdd] at q0 q1 q2 q3 q4 q5 p0 p1 p2 p3 p4 p5
  (try clear Rg); (try clear yg); (try clear Zg)
  have Rg := cells_of (S4.box _ m0)
  have yg := blk_lt (S4.box _ m0)
  (try simp only at Rg yg)
  go_wp2_with fail
  refine (HI.out _ _ S4).mono ?_
  rintro r w5 ⟨rfl, S5⟩
  clear S4 Rg yg
  go_upto_region 13 with (fail)
  generalize hlo : l ++ [(⟨3, ux, un, up, ul, us⟩ : O), ⟨4, vx, vn, vp, vl, vs⟩] = lo at *
  obtain ⟨KB, hKB⟩ : ∃ KB, KB = (g', Obj.cells cur' 38) :: (w2.heap.size, Obj.cells #[.int .i64 24, .int .i64 24] 3) :: (g, Obj.cells cur 38) :: (w.heap.size, Obj.cells #[.int .i64 (-1), .int .i64 280] 3) :: K := ⟨_, rfl⟩
  have nG : (g', Obj.cells cur' 38) ∈ KB := by rw [hKB]; exact m0
  rw [← hKB] at S5
  have HKB := hid' hKB
  have QG := KS.cells (w0 := w0) (M := M) (sp := sp) (l := lo) nG
  have hS1 : KS w0 M KB sp lo w5 := S5
  have HDR := hid' (fun W (h : KS w0 M KB sp lo W) => h.drew)
  clear S5 hKB nG hlo hc HI HF TA
  go_region_held3 (fun W' => KS w0 M KB sp lo W') (first | (with_reducible assumption) | (with_reducible exact HDR.out _ (by with_reducible assumption)))
    (first
      | (go_at_call 151; refine (HL1.out _).mono ?_; rintro r w7 ⟨rfl, X7⟩; have S7 := KS.pure (by first | with_reducible assumption | (with_reducible exact HDR.out _ (by with_reducible assumption))) X7))
  go_upto_region 14 with (fail)
  go_region_held3 (fun W' => KS w0 M KB sp lo W') (first | (with_reducible assumption) | (with_reducible exact HDR.out _ (by with_reducible assumption)))
    (first
      | (go_at_call 151; refine (HL2.out _).mono ?_; rintro r w9 ⟨rfl, X9⟩; have S9 := KS.pure (by first | with_reducible assumption | (with_reducible exact HDR.out _ (by with_reducible assumption))) X9))
  clear HL1 HL2 QG q0 q1 q2 q3 q4 q5 p0 p1 p2 p3 p4 p5
  rcases HN.out with rfl | rfl | rfl | rfl <;> cases le <;> cases mo
  all_goals
    have hvv := HV.out
    simp [cmpB] at hvv
    subst hvv
    clear HV HN
    go_wp2_with fail
    refine (HTR.out _ _).mono ?_
    rintro r w7 ⟨rfl, X7⟩
    have S7 : StkAt w0 w7 M KB sp lo := KS.pure (by first | with_reducible assumption | (with_reducible exact HDR.out _ (by with_reducible assumption))) X7
    clear X7
    go_wp2_with fail
    refine (HG.out _ _ _ _ ?_ (S7.alloc _)).mono ?_
    · rfl
    rintro r w8 ⟨rfl, S8⟩
    go_wp2_with fail
    go_ret
    exact ⟨rfl, S8.keep (by rw [HKB.out]; exact (((List.sublist_cons_self _ _).trans (List.sublist_cons_self _ _)).trans (List.sublist_cons_self _ _)).trans (List.sublist_cons_self _ _))⟩
end Go.Proofs.YteglbjcdlekbpaaGreat
/- Walk: seq.Do at eq and ne. -/
namespace Go.Proofs.YteglbjcdlekbpaaGreat
open Go.RowKit

set_option maxRecDepth 100000 in
set_option maxHeartbeats 2000000 in
theorem sdo_eq {w0 w : World} {M : List (Nat × List C)} {K : List (Nat × Obj)} {sp hp : Nat} {l : List O} {L : List C} {a b : O} (S : StkAt w0 w M K sp (l ++ [a, b])) (hm : (hp, L) ∈ M) (ka : isK (-1) a.kind = true) (kb : isK (-1) b.kind = true) (hH : HeldAll L [a, b]) (sv : Bool)
    (HSM : ∀ w' K', Ats w0 w' M K' → Calls Tryz.prog 102 #[ptr hp, a.val, b.val] w' fun r w2 => r = .returned (.bool sv) ∧ Ats w0 w2 M K') (hl : l.length + 1 ≤ 200) (n : Int) (hn : n = 40 ∨ n = 41) (v : Bool) (hv : (sv == decide (n = 40)) = v) :
    Calls Tryz.prog 59 #[ptr hp, ptr sp, .int .i64 n] w fun r w' => r = .returned (.int .i64 0) ∧ StkAt w0 w' M K sp (l ++ [bO v]) := by
  have HFA : Hid (∀ w', Calls Tryz.prog 77 #[.int .i64 n] w' fun e w2 => e = .returned (.int .i64 2) ∧ Chg NoB w' w2) := hid' (by
    rcases hn with rfl | rfl
    · obtain ⟨bs, hbs⟩ := fam_is (i := 39) (f := 2) (by decide +kernel)
      exact fun w' => family_at 39 2 bs hbs w'
    · obtain ⟨bs, hbs⟩ := fam_is (i := 40) (f := 2) (by decide +kernel)
      exact fun w' => family_at 40 2 bs hbs w')
  have HF := hid' (fun (w' : World) (g : Nat) (K' : List (Nat × Obj)) (S' : StkAt w0 w' M ((g, .cells #[.int .i64 (-1), .int .i64 (-1)] 3) :: K') sp (l ++ [a, b])) => hand_from S' hm [-1, -1] g m0 rfl (fun i k o h1 h2 => by
    rcases i with _ | _ | i
    · simp at h1 h2; subst h1 h2; exact ka
    · simp at h1 h2; subst h1 h2; exact kb
    · simp at h1) hH 2 rfl)
  have HSA := hid' (fun (w' : World) (K' : List (Nat × Obj)) (S' : StkAt w0 w' M K' sp (l ++ [a, b])) => S'.ask (r := .bool sv) (fun K2 A => HSM w' K2 A))
  have HTR := hid' (fun (b : Bool) w' => truth_b b w')
  have HG := hid' (fun (W : World) (g : Nat) (K' : List (Nat × Obj)) (cur : Array Value) (hc : cur.toList = [bO v].flatMap O.cells) (S' : StkAt w0 W M ((g, .cells cur 38) :: K') sp (l ++ [a, b])) => giveB S' hc 2 rfl 1 rfl hl (fun o ho => by
    simp only [List.mem_cons, List.not_mem_nil, or_false] at ho
    subst ho; cases v <;> decide +kernel))
  obtain ⟨uk, ux, un, up, ul, us⟩ := a
  obtain ⟨vk, vx, vn, vp, vl, vs⟩ := b
  clear hm hH hl HSM ka kb
  rcases hn with rfl | rfl <;> cases sv
  all_goals
    simp at hv
    subst hv
    go_enter Tryz.func59, Tryz.ntmps59
    go_wp2_with fail
    refine (HFA.out _).mono ?_
    rintro r w1 ⟨rfl, X1⟩
    have S1 := (S.pure X1).alloc (.cells #[.int .i64 (-1), .int .i64 (-1)] 3)
    clear S X1
    go_wp2_with fail
    refine (HF.out _ _ _ S1).mono ?_
    rintro r w2 ⟨g, cur, rfl, hc, S2⟩
    obtain ⟨q0, q1, q2, q3, q4, q5⟩ := at6 hc (m := 0) rfl
    obtain ⟨p0, p1, p2, p3, p4, p5⟩ := at6 hc (m := 1) rfl
    simp only [Nat.zero_mul, Nat.zero_add, Nat.one_mul, Nat.reduceAdd] at q0 q1 q2 q3 q4 q5 p0 p1 p2 p3 p4 p5
    clear hc S1
    go_upto_region 11 with (fail)
    obtain ⟨KB, hKB⟩ : ∃ KB, KB = (g, Obj.cells cur 38) :: (w1.heap.size, Obj.cells #[.int .i64 (-1), .int .i64 (-1)] 3) :: K := ⟨_, rfl⟩
    have nG : (g, Obj.cells cur 38) ∈ KB := by rw [hKB]; exact m0
    rw [← hKB] at S2
    have HKB := hid' hKB
    have QG := BS.cells (w0 := w0) (M := M) (sp := sp) nG
    have hS1 := BS.of S2
    have HS := hid' S2
    clear S2 hKB nG
    go_region_held3 (fun W' => BS w0 M sp KB W') (first | (with_reducible assumption) | (with_reducible exact BS.of S13) | (with_reducible exact BS.of S12) | (with_reducible exact BS.of S11) | (with_reducible exact BS.drew (by with_reducible assumption)) | (with_reducible exact BS.alloc (by with_reducible assumption) _))
      (first
        | (go_at_call 102; refine (HSA.out _ _ (by first | exact HS.out | exact HS.out.drew)).mono ?_; rintro r w12 ⟨rfl, S11⟩)
        | (go_at_call 101; refine (HTR.out _ _).mono ?_; rintro r w13 ⟨rfl, X13⟩; have S12 : StkAt w0 w13 M KB sp (l ++ _) := (by first | exact S11.pure X13 | exact S11.drew.pure X13))
        | (go_at_call 92; refine (HG.out _ _ KB _ (by rfl) (by first | exact S12.alloc _ | exact (S12.alloc _).drew | exact S12.drew.alloc _)).mono ?_; rintro r w14 ⟨rfl, S13⟩))
    go_wp2_with fail
    go_ret
    exact ⟨rfl, S13.keep (by rw [HKB.out]; exact ((List.sublist_cons_self _ _).trans (List.sublist_cons_self _ _)))⟩
end Go.Proofs.YteglbjcdlekbpaaGreat
