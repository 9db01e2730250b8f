/- Sin, Sct, Sdo -/
import Derived.Test.YteglbjcdlekbpaaGreatZRefg
import Derived.Test.YteglbjcdlekbpaaGreatZSeqa
/- Walks: seq.inside: what an object stands for. -/
namespace Go.Proofs.YteglbjcdlekbpaaGreat
open Go.RowKit

set_option maxRecDepth 100000 in
theorem inside_str {w0 w : World} {hp : Nat} {L : List C} {M : List (Nat × List C)} {K : List (Nat × Obj)} (A : Ats w0 w M K) (hm : (hp, L) ∈ M) (o : O) (hk : o.kind = 8) (b : ByteArray) (e : Int) (hb : bytesH L o = (b, e)) :
    Calls Tryz.prog 150 #[ptr hp, o.val] w fun r w' => r = .returned (.iface 181 (.string b)) ∧ Ats w0 w' M K := by
  have HB := hid' (fun (w' : World) (K' : List (Nat × Obj)) (A' : Ats w0 w' M K') => at_bytes A' o hb hm)
  obtain ⟨kk, kx, kn, kp, kl, ks⟩ := o
  simp only at hk
  subst hk
  have A1 := A.alloc (.cells #[.int .i64 8, .bool kx, .int .i64 kn, .int .i64 kp, .int .i64 kl, .string ks] 38)
  clear A hb hm
  go_enter Tryz.func150, Tryz.ntmps150
  go_wp2_with fail
  refine (HB.out _ _ A1).mono ?_
  rintro r w2 ⟨rfl, A2⟩
  go_wp2_with fail
  go_ret
  exact ⟨rfl, A2.keep (List.sublist_cons_self _ _)⟩
set_option maxRecDepth 100000 in
theorem inside_num {w0 w : World} {hp : Nat} {M : List (Nat × List C)} {K : List (Nat × Obj)} (A : Ats w0 w M K) (o : O) (hk : o.kind = 3 ∨ o.kind = 4) :
    Calls Tryz.prog 150 #[ptr hp, o.val] w fun r w' => r = .returned .nilIface ∧ Ats w0 w' M K := by
  obtain ⟨kk, kx, kn, kp, kl, ks⟩ := o
  simp only at hk
  rcases hk with rfl | rfl
  · have A1 := A.alloc (.cells #[.int .i64 3, .bool kx, .int .i64 kn, .int .i64 kp, .int .i64 kl, .string ks] 38)
    clear A
    go_enter Tryz.func150, Tryz.ntmps150
    go_wp2_with fail
    go_ret
    exact ⟨rfl, A1.keep (List.sublist_cons_self _ _)⟩
  · have A1 := A.alloc (.cells #[.int .i64 4, .bool kx, .int .i64 kn, .int .i64 kp, .int .i64 kl, .string ks] 38)
    clear A
    go_enter Tryz.func150, Tryz.ntmps150
    go_wp2_with fail
    go_ret
    exact ⟨rfl, A1.keep (List.sublist_cons_self _ _)⟩
end Go.Proofs.YteglbjcdlekbpaaGreat
/- Walks: seq.cat of two strings; seq.length of a string. -/
namespace Go.Proofs.YteglbjcdlekbpaaGreat
open Go.RowKit

theorem as_text (W : World) (v : Value) : (Instr.typeAssert (.iface 181 v) 179 181 true).run Tryz.prog W = .ok (.tuple #[v, .bool true]) W := by kernel_rfl
set_option maxRecDepth 100000 in
set_option maxHeartbeats 400000 in
theorem cat_str {w0 w : World} {M : List (Nat × List C)} {K : List (Nat × Obj)} {sp hp : Nat} {l : List O} {L L' : List C} {a b c : O} {x y : ByteArray} {ea eb : Int} (S : StkAt w0 w ((hp, L) :: M) K sp (l ++ [a, b])) (ka : a.kind = 8) (kb : b.kind = 8) (hH : HeldAll L [a, b]) (hx : bytesH L a = (x, ea)) (hy : bytesH L b = (y, eb)) (sx : x.size ≤ 40000) (sy : y.size ≤ 40000)
    (hr : stringH L (x ++ y) = (L', c, 0)) (mc : mayO c = true) (hl : l.length + 1 ≤ 200) :
    Calls Tryz.prog 115 #[ptr hp, ptr sp] w fun r w' => r = .returned (.int .i64 0) ∧ StkAt w0 w' ((hp, L') :: M) K sp (l ++ [c]) := by
  have HF := hid' (fun (w' : World) (g : Nat) (K' : List (Nat × Obj)) (S' : StkAt w0 w' ((hp, L) :: M) ((g, .cells #[.int .i64 768, .int .i64 768] 3) :: K') sp (l ++ [a, b])) => hand_take S' [768, 768] g m0 rfl (fun i k o h1 h2 => by
    rcases i with _ | _ | i
    · simp at h1 h2; subst h1 h2; rw [ka]; decide +kernel
    · simp at h1 h2; subst h1 h2; rw [kb]; decide +kernel
    · simp at h1) 2 rfl)
  have HK : ∀ o ∈ [a, b], 0 ≤ o.kind ∧ o.kind ≤ 12 := fun o ho => by
    simp only [List.mem_cons, List.not_mem_nil, or_false] at ho
    rcases ho with rfl | rfl
    · rw [ka]; decide
    · rw [kb]; decide
  have HH := hid' (fun (w' : World) (g : Nat) (cur : Array Value) (K' : List (Nat × Obj)) (hc : cur.toList = [a, b].flatMap O.cells) (S' : StkAt w0 w' ((hp, L) :: M) ((g, .cells cur 38) :: K') sp (l ++ [a, b])) => hand_held (ops := [a, b]) S' m0 2 g 2 cur 0 rfl (by decide) (by decide) m0 (reads_of hc) HK hH)
  have HI := hid' (fun (w' : World) (K' : List (Nat × Obj)) (S' : StkAt w0 w' ((hp, L) :: M) K' sp (l ++ [a, b])) => S'.ask (r := .iface 181 (.string x)) (fun K2 A => inside_str A m0 a ka x ea hx))
  have HBY := hid' (fun (w' : World) (K' : List (Nat × Obj)) (S' : StkAt w0 w' ((hp, L) :: M) K' sp (l ++ [a, b])) => S'.ask (r := .tuple #[.string y, .int .i64 eb]) (fun K2 A => at_bytes A b hy m0))
  have HST := hid' (fun (w' : World) (K' : List (Nat × Obj)) (S' : StkAt w0 w' ((hp, L) :: M) K' sp (l ++ [a, b])) => S'.ask (M' := (hp, L') :: M) (r := .tuple #[c.val, .int .i64 0]) (fun K2 A => at_string A (x ++ y) hr))
  have HG := hid' (fun (W : World) (g : Nat) (K' : List (Nat × Obj)) (cur : Array Value) (hc : cur.toList = [c].flatMap O.cells) (S' : StkAt w0 W ((hp, L') :: M) ((g, .cells cur 38) :: K') sp (l ++ [a, b])) => giveB S' hc 2 rfl 1 rfl hl (fun o ho => by
    simp only [List.mem_cons, List.not_mem_nil, or_false] at ho
    subst ho; exact mc))
  have S1 := S.alloc (.cells #[.int .i64 768, .int .i64 768] 3)
  have TA := as_text
  obtain ⟨uk, ux, un, up, ul, us⟩ := a
  obtain ⟨vk, vx, vn, vp, vl, vs⟩ := b
  obtain ⟨rk, rx, rn, rp, rl, rs⟩ := c
  simp only at ka kb
  subst ka kb
  have sx' : (x.size : Int) ≤ 40000 := by omega
  have sy' : (y.size : Int) ≤ 40000 := by omega
  clear S hH hx hy sx sy hr mc hl HK
  go_enter Tryz.func115, Tryz.ntmps115
  go_wp2_with fail
  refine (HF.out _ _ _ S1).mono ?_
  rintro r w2 ⟨g, cur, rfl, hc, S2⟩
  obtain ⟨q0, q1, q2, q3, q4, q5⟩ := at6 hc (m := 0) rfl
  obtain ⟨p0, p1, p2, p3, p4, p5⟩ := at6 hc (m := 1) rfl
  simp only [Nat.zero_mul, Nat.zero_add, Nat.one_mul, Nat.reduceAdd] at q0 q1 q2 q3 q4 q5 p0 p1 p2 p3 p4 p5
  clear S1
  (try clear Rg); (try clear yg); (try clear Zg)
  have Rg := cells_of (S2.box _ m0)
  have yg := blk_lt (S2.box _ m0)
  (try simp only at Rg yg)
  go_upto_region 2 with (fail)
  go_quiet (fail)
  have S3 := S2.pure ((Chg.refl NoB w2).drewN nq)
  generalize w2.drewN nq = w3 at *
  clear S2 Rg yg
  (try clear Rg); (try clear yg); (try clear Zg)
  have Rg := cells_of (S3.box _ m0)
  have yg := blk_lt (S3.box _ m0)
  (try simp only at Rg yg)
  go_wp2_with fail
  refine (HH.out _ _ _ _ hc S3).mono ?_
  rintro r w4 ⟨rfl, S4⟩
  clear S3 Rg yg
  (try clear Rg); (try clear yg); (try clear Zg)
  have Rg := cells_of (S4.box _ m0)
  have yg := blk_lt (S4.box _ m0)
  (try simp only at Rg yg)
  have S5 := S4.alloc (Obj.cells #[.int .i64 0, .bool false, .int .i64 0, .int .i64 0, .int .i64 0, .string ⟨#[]⟩] 38)
  go_upto_region 9 with (fail)
  generalize hW : w4.alloc _ = w5 at *
  clear hW S4 Rg yg
  (try clear Rz); (try clear yz); (try clear Zz)
  have Rz := cells_of (S5.box _ m0)
  have yz := blk_lt (S5.box _ m0)
  have Zz := free_of (S5.box _ m0)
  (try clear Rg); (try clear yg); (try clear Zg)
  have Rg := cells_of (S5.box _ m1)
  have yg := blk_lt (S5.box _ m1)
  (try simp only at Rz yz Zz Rg yg)
  go_wp2_with fail
  refine (HI.out _ _ S5).mono ?_
  rintro r w6 ⟨rfl, S6⟩
  clear S5 Rg yg Rz yz Zz
  (try clear Rz); (try clear yz); (try clear Zz)
  have Rz := cells_of (S6.box _ m0)
  have yz := blk_lt (S6.box _ m0)
  have Zz := free_of (S6.box _ m0)
  (try clear Rg); (try clear yg); (try clear Zg)
  have Rg := cells_of (S6.box _ m1)
  have yg := blk_lt (S6.box _ m1)
  (try simp only at Rz yz Zz Rg yg)
  go_wp2_with fail
  refine (HBY.out _ _ S6).mono ?_
  rintro r w7 ⟨rfl, S7⟩
  clear S6 Rg yg Rz yz Zz
  (try clear Rz); (try clear yz); (try clear Zz)
  have Rz := cells_of (S7.box _ m0)
  have yz := blk_lt (S7.box _ m0)
  have Zz := free_of (S7.box _ m0)
  (try clear Rg); (try clear yg); (try clear Zg)
  have Rg := cells_of (S7.box _ m1)
  have yg := blk_lt (S7.box _ m1)
  (try simp only at Rz yz Zz Rg yg)
  go_wp2_with fail
  refine (HST.out _ _ S7).mono ?_
  rintro r w8 ⟨rfl, S8⟩
  clear S7 Rg yg Rz yz Zz
  (try clear Rz); (try clear yz); (try clear Zz)
  have Rz := cells_of (S8.box _ m0)
  have yz := blk_lt (S8.box _ m0)
  have Zz := free_of (S8.box _ m0)
  (try simp only at Rz yz Zz)
  have S9 := S8.putO rk rx rn rp rl rs
  have HS9 := hid' S9
  clear S8 S9
  go_upto_region 25 with (fail)
  clear Rz yz Zz HF HH HI HBY HST q0 q1 q2 q3 q4 q5 p0 p1 p2 p3 p4 p5 hc
  generalize hz : w4.heap.size = zb at *
  generalize hW : ((((((w8.setCell ⟨zb, 0, none⟩ (.int .i64 rk)).setCell ⟨zb, 1, none⟩ (.bool rx)).setCell ⟨zb, 2, none⟩ (.int .i64 rn)).setCell ⟨zb, 3, none⟩ (.int .i64 rp)).setCell ⟨zb, 4, none⟩ (.int .i64 rl)).setCell ⟨zb, 5, none⟩ (.string rs)) = w9 at *
  clear hW hz
  have R9 := cells_of (HS9.out.box _ m0)
  simp only at R9
  have S10 := HS9.out.alloc (Obj.cells #[.int .i64 rk, .bool rx, .int .i64 rn, .int .i64 rp, .int .i64 rl, .string rs] 38)
  go_wp2_with fail
  refine (HG.out _ _ _ _ rfl S10).mono ?_
  rintro r w11 ⟨rfl, S11⟩
  go_wp2_with fail
  go_ret
  exact ⟨rfl, S11.keep (((List.sublist_cons_self _ _).trans (List.sublist_cons_self _ _)).trans (List.sublist_cons_self _ _))⟩
end Go.Proofs.YteglbjcdlekbpaaGreat
/- Walks: seq.Do where it hands on to another function (printed by gensdo.py). -/
namespace Go.Proofs.YteglbjcdlekbpaaGreat
open Go.RowKit

set_option maxRecDepth 100000 in
theorem sdo_42 {w0 w : World} {M M' : List (Nat × List C)} {K : List (Nat × Obj)} {sp hp : Nat} {l l' : List O} {e : Int} (S : StkAt w0 w M K sp l)
    (HS : ∀ w', StkAt w0 w' M K sp l → Calls Tryz.prog 103 #[ptr hp, ptr sp, .int .i64 42] w' fun r w2 => r = .returned (.int .i64 e) ∧ StkAt w0 w2 M' K sp l') :
    Calls Tryz.prog 59 #[ptr hp, ptr sp, .int .i64 42] w fun r w' => r = .returned (.int .i64 e) ∧ StkAt w0 w' M' K sp l' := by
  obtain ⟨bs, hbs⟩ := fam_is (i := 41) (f := 2) (by decide +kernel)
  have HF := hid' (fun w' => family_at 41 2 bs hbs w')
  have HS := hid' HS
  clear hbs
  go_enter Tryz.func59, Tryz.ntmps59
  go_wp2_with fail
  refine (HF.out _).mono ?_
  rintro r w2 ⟨rfl, X2⟩
  have S2 := S.pure X2
  clear S X2
  go_wp2_with fail
  refine (HS.out _ S2).mono ?_
  rintro r w3 ⟨rfl, S3⟩
  go_wp2_with fail
  go_ret
  exact ⟨rfl, S3⟩
set_option maxRecDepth 100000 in
theorem sdo_43 {w0 w : World} {M M' : List (Nat × List C)} {K : List (Nat × Obj)} {sp hp : Nat} {l l' : List O} {e : Int} (S : StkAt w0 w M K sp l)
    (HS : ∀ w', StkAt w0 w' M K sp l → Calls Tryz.prog 103 #[ptr hp, ptr sp, .int .i64 43] w' fun r w2 => r = .returned (.int .i64 e) ∧ StkAt w0 w2 M' K sp l') :
    Calls Tryz.prog 59 #[ptr hp, ptr sp, .int .i64 43] w fun r w' => r = .returned (.int .i64 e) ∧ StkAt w0 w' M' K sp l' := by
  obtain ⟨bs, hbs⟩ := fam_is (i := 42) (f := 2) (by decide +kernel)
  have HF := hid' (fun w' => family_at 42 2 bs hbs w')
  have HS := hid' HS
  clear hbs
  go_enter Tryz.func59, Tryz.ntmps59
  go_wp2_with fail
  refine (HF.out _).mono ?_
  rintro r w2 ⟨rfl, X2⟩
  have S2 := S.pure X2
  clear S X2
  go_wp2_with fail
  refine (HS.out _ S2).mono ?_
  rintro r w3 ⟨rfl, S3⟩
  go_wp2_with fail
  go_ret
  exact ⟨rfl, S3⟩
set_option maxRecDepth 100000 in
theorem sdo_44 {w0 w : World} {M M' : List (Nat × List C)} {K : List (Nat × Obj)} {sp hp : Nat} {l l' : List O} {e : Int} (S : StkAt w0 w M K sp l)
    (HS : ∀ w', StkAt w0 w' M K sp l → Calls Tryz.prog 103 #[ptr hp, ptr sp, .int .i64 44] w' fun r w2 => r = .returned (.int .i64 e) ∧ StkAt w0 w2 M' K sp l') :
    Calls Tryz.prog 59 #[ptr hp, ptr sp, .int .i64 44] w fun r w' => r = .returned (.int .i64 e) ∧ StkAt w0 w' M' K sp l' := by
  obtain ⟨bs, hbs⟩ := fam_is (i := 43) (f := 2) (by decide +kernel)
  have HF := hid' (fun w' => family_at 43 2 bs hbs w')
  have HS := hid' HS
  clear hbs
  go_enter Tryz.func59, Tryz.ntmps59
  go_wp2_with fail
  refine (HF.out _).mono ?_
  rintro r w2 ⟨rfl, X2⟩
  have S2 := S.pure X2
  clear S X2
  go_wp2_with fail
  refine (HS.out _ S2).mono ?_
  rintro r w3 ⟨rfl, S3⟩
  go_wp2_with fail
  go_ret
  exact ⟨rfl, S3⟩
set_option maxRecDepth 100000 in
theorem sdo_45 {w0 w : World} {M M' : List (Nat × List C)} {K : List (Nat × Obj)} {sp hp : Nat} {l l' : List O} {e : Int} (S : StkAt w0 w M K sp l)
    (HS : ∀ w', StkAt w0 w' M K sp l → Calls Tryz.prog 103 #[ptr hp, ptr sp, .int .i64 45] w' fun r w2 => r = .returned (.int .i64 e) ∧ StkAt w0 w2 M' K sp l') :
    Calls Tryz.prog 59 #[ptr hp, ptr sp, .int .i64 45] w fun r w' => r = .returned (.int .i64 e) ∧ StkAt w0 w' M' K sp l' := by
  obtain ⟨bs, hbs⟩ := fam_is (i := 44) (f := 2) (by decide +kernel)
  have HF := hid' (fun w' => family_at 44 2 bs hbs w')
  have HS := hid' HS
  clear hbs
  go_enter Tryz.func59, Tryz.ntmps59
  go_wp2_with fail
  refine (HF.out _).mono ?_
  rintro r w2 ⟨rfl, X2⟩
  have S2 := S.pure X2
  clear S X2
  go_wp2_with fail
  refine (HS.out _ S2).mono ?_
  rintro r w3 ⟨rfl, S3⟩
  go_wp2_with fail
  go_ret
  exact ⟨rfl, S3⟩
set_option maxRecDepth 100000 in
theorem sdo_48 {w0 w : World} {M M' : List (Nat × List C)} {K : List (Nat × Obj)} {sp hp : Nat} {l l' : List O} {e : Int} (S : StkAt w0 w M K sp l)
    (HS : ∀ w', StkAt w0 w' M K sp l → Calls Tryz.prog 105 #[ptr hp, ptr sp] w' fun r w2 => r = .returned (.int .i64 e) ∧ StkAt w0 w2 M' K sp l') :
    Calls Tryz.prog 59 #[ptr hp, ptr sp, .int .i64 48] w fun r w' => r = .returned (.int .i64 e) ∧ StkAt w0 w' M' K sp l' := by
  obtain ⟨bs, hbs⟩ := fam_is (i := 47) (f := 2) (by decide +kernel)
  have HF := hid' (fun w' => family_at 47 2 bs hbs w')
  have HS := hid' HS
  clear hbs
  go_enter Tryz.func59, Tryz.ntmps59
  go_wp2_with fail
  refine (HF.out _).mono ?_
  rintro r w2 ⟨rfl, X2⟩
  have S2 := S.pure X2
  clear S X2
  go_wp2_with fail
  refine (HS.out _ S2).mono ?_
  rintro r w3 ⟨rfl, S3⟩
  go_wp2_with fail
  go_ret
  exact ⟨rfl, S3⟩
set_option maxRecDepth 100000 in
theorem sdo_53 {w0 w : World} {M M' : List (Nat × List C)} {K : List (Nat × Obj)} {sp hp : Nat} {l l' : List O} {e : Int} (S : StkAt w0 w M K sp l)
    (HS : ∀ w', StkAt w0 w' M K sp l → Calls Tryz.prog 112 #[ptr hp, ptr sp, .int .i64 53] w' fun r w2 => r = .returned (.int .i64 e) ∧ StkAt w0 w2 M' K sp l') :
    Calls Tryz.prog 59 #[ptr hp, ptr sp, .int .i64 53] w fun r w' => r = .returned (.int .i64 e) ∧ StkAt w0 w' M' K sp l' := by
  obtain ⟨bs, hbs⟩ := fam_is (i := 52) (f := 2) (by decide +kernel)
  have HF := hid' (fun w' => family_at 52 2 bs hbs w')
  have HS := hid' HS
  clear hbs
  go_enter Tryz.func59, Tryz.ntmps59
  go_wp2_with fail
  refine (HF.out _).mono ?_
  rintro r w2 ⟨rfl, X2⟩
  have S2 := S.pure X2
  clear S X2
  go_wp2_with fail
  refine (HS.out _ S2).mono ?_
  rintro r w3 ⟨rfl, S3⟩
  go_wp2_with fail
  go_ret
  exact ⟨rfl, S3⟩
set_option maxRecDepth 100000 in
theorem sdo_54 {w0 w : World} {M M' : List (Nat × List C)} {K : List (Nat × Obj)} {sp hp : Nat} {l l' : List O} {e : Int} (S : StkAt w0 w M K sp l)
    (HS : ∀ w', StkAt w0 w' M K sp l → Calls Tryz.prog 112 #[ptr hp, ptr sp, .int .i64 54] w' fun r w2 => r = .returned (.int .i64 e) ∧ StkAt w0 w2 M' K sp l') :
    Calls Tryz.prog 59 #[ptr hp, ptr sp, .int .i64 54] w fun r w' => r = .returned (.int .i64 e) ∧ StkAt w0 w' M' K sp l' := by
  obtain ⟨bs, hbs⟩ := fam_is (i := 53) (f := 2) (by decide +kernel)
  have HF := hid' (fun w' => family_at 53 2 bs hbs w')
  have HS := hid' HS
  clear hbs
  go_enter Tryz.func59, Tryz.ntmps59
  go_wp2_with fail
  refine (HF.out _).mono ?_
  rintro r w2 ⟨rfl, X2⟩
  have S2 := S.pure X2
  clear S X2
  go_wp2_with fail
  refine (HS.out _ S2).mono ?_
  rintro r w3 ⟨rfl, S3⟩
  go_wp2_with fail
  go_ret
  exact ⟨rfl, S3⟩
set_option maxRecDepth 100000 in
theorem sdo_57 {w0 w : World} {M M' : List (Nat × List C)} {K : List (Nat × Obj)} {sp hp : Nat} {l l' : List O} {e : Int} (S : StkAt w0 w M K sp l)
    (HS : ∀ w', StkAt w0 w' M K sp l → Calls Tryz.prog 114 #[ptr hp, ptr sp] w' fun r w2 => r = .returned (.int .i64 e) ∧ StkAt w0 w2 M' K sp l') :
    Calls Tryz.prog 59 #[ptr hp, ptr sp, .int .i64 57] w fun r w' => r = .returned (.int .i64 e) ∧ StkAt w0 w' M' K sp l' := by
  obtain ⟨bs, hbs⟩ := fam_is (i := 56) (f := 2) (by decide +kernel)
  have HF := hid' (fun w' => family_at 56 2 bs hbs w')
  have HS := hid' HS
  clear hbs
  go_enter Tryz.func59, Tryz.ntmps59
  go_wp2_with fail
  refine (HF.out _).mono ?_
  rintro r w2 ⟨rfl, X2⟩
  have S2 := S.pure X2
  clear S X2
  go_wp2_with fail
  refine (HS.out _ S2).mono ?_
  rintro r w3 ⟨rfl, S3⟩
  go_wp2_with fail
  go_ret
  exact ⟨rfl, S3⟩
set_option maxRecDepth 100000 in
theorem sdo_58 {w0 w : World} {M M' : List (Nat × List C)} {K : List (Nat × Obj)} {sp hp : Nat} {l l' : List O} {e : Int} (S : StkAt w0 w M K sp l)
    (HS : ∀ w', StkAt w0 w' M K sp l → Calls Tryz.prog 115 #[ptr hp, ptr sp] w' fun r w2 => r = .returned (.int .i64 e) ∧ StkAt w0 w2 M' K sp l') :
    Calls Tryz.prog 59 #[ptr hp, ptr sp, .int .i64 58] w fun r w' => r = .returned (.int .i64 e) ∧ StkAt w0 w' M' K sp l' := by
  obtain ⟨bs, hbs⟩ := fam_is (i := 57) (f := 2) (by decide +kernel)
  have HF := hid' (fun w' => family_at 57 2 bs hbs w')
  have HS := hid' HS
  clear hbs
  go_enter Tryz.func59, Tryz.ntmps59
  go_wp2_with fail
  refine (HF.out _).mono ?_
  rintro r w2 ⟨rfl, X2⟩
  have S2 := S.pure X2
  clear S X2
  go_wp2_with fail
  refine (HS.out _ S2).mono ?_
  rintro r w3 ⟨rfl, S3⟩
  go_wp2_with fail
  go_ret
  exact ⟨rfl, S3⟩
end Go.Proofs.YteglbjcdlekbpaaGreat
