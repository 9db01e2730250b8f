/- Src, Sra, Srn, Skn -/
import Derived.Test.YteglbjcdlekbpaaGreatZRefg
import Derived.Test.YteglbjcdlekbpaaGreatZShl
/- Walk: seq.search (printed by gensq.py). -/
namespace Go.Proofs.YteglbjcdlekbpaaGreat
open Go.RowKit

theorem truth_b (b : Bool) (w : World) : Calls Tryz.prog 101 #[.bool b] w fun e w' => e = .returned (bO b).val ∧ Chg NoB w w' := by
  cases b
  all_goals
    go_enter Tryz.func101, Tryz.ntmps101
    go_wp2_with fail
    refine bodyPost_ret (v := O.val (bO _)) ?_ rfl ⟨rfl, ?_⟩
    · simp [results, Tryz.results101, go_sem, bO]
    · exact ((Chg.refl NoB w).alloc _).alloc _
theorem giveB {w0 W : World} {M : List (Nat × List C)} {KB : List (Nat × Obj)} {sp g : Nat} {l ops gv : List O} {cur : Array Value} (S : StkAt w0 W M ((g, .cells cur 38) :: KB) sp (l ++ ops)) (hc : cur.toList = gv.flatMap O.cells) (n : Nat) (hn : ops.length = n) (k : Nat) (hk : gv.length = k) (hroom : l.length + k ≤ 200) (hmay : ∀ o ∈ gv, mayO o = true) :
    Calls Tryz.prog 92 #[ptr sp, .int .i64 n, .slice (some ⟨g, 0, none⟩) k k] W fun e w' => e = .returned (.int .i64 0) ∧ StkAt w0 w' M KB sp (l ++ gv) :=
  (hand_give S n hn k hk hroom hmay (some ⟨g, 0, none⟩) k (Nat.le_refl _) (fun m o ho => ⟨g, 0, cur, _, rfl, m0, fun j hj => reads_of hc m o ho j hj⟩)).mono fun _ _ h => ⟨h.1, h.2.keep (List.sublist_cons_self _ _)⟩
theorem isK_str' (k : Int) (h : k = 8) : isK 256 k = true := by subst h; decide +kernel
/-- Operands, whatever they are, and boxes that stay: for a drawn region to hold. -/
def BS (w0 : World) (M : List (Nat × List C)) (sp : Nat) (KB : List (Nat × Obj)) (W : World) : Prop := ∃ l E, StkAt w0 W M (E ++ KB) sp l
theorem BS.of {w0 W : World} {M : List (Nat × List C)} {sp : Nat} {l : List O} {KB : List (Nat × Obj)} (S : StkAt w0 W M KB sp l) : BS w0 M sp KB W := ⟨l, [], S⟩
theorem BS.drew {w0 W : World} {M : List (Nat × List C)} {sp : Nat} {KB : List (Nat × Obj)} (h : BS w0 M sp KB W) : BS w0 M sp KB W.drew := by
  obtain ⟨l, E, S⟩ := h; exact ⟨l, E, S.drew⟩
theorem BS.pure {w0 W W' : World} {M : List (Nat × List C)} {sp : Nat} {KB : List (Nat × Obj)} (h : BS w0 M sp KB W) (X : Chg NoB W W') : BS w0 M sp KB W' := by
  obtain ⟨l, E, S⟩ := h; exact ⟨l, E, S.pure X⟩
theorem BS.alloc {w0 W : World} {M : List (Nat × List C)} {sp : Nat} {KB : List (Nat × Obj)} (h : BS w0 M sp KB W) (o : Obj) : BS w0 M sp KB (W.alloc o) := h.pure ((Chg.refl NoB W).alloc o)
theorem BS.cells {w0 : World} {M : List (Nat × List C)} {sp g : Nat} {KB : List (Nat × Obj)} {cs : Array Value} {T : TypeId} {fz : Nat × Nat} (hm : (g, Obj.cells cs T fz) ∈ KB) : ∀ W, BS w0 M sp KB W → ∀ i, W.cell? ⟨g, i, none⟩ = cs[i]? := by
  rintro W ⟨l, E, S⟩ i
  exact cells_of (S.box _ (List.mem_append_right _ hm)) i
set_option maxRecDepth 100000 in
set_option maxHeartbeats 4000000 in
theorem search_yes {w0 w : World} {M : List (Nat × List C)} {K : List (Nat × Obj)} {sp hp : Nat} {l : List O} {L : List C} {a b hb ib db : O} {x y : ByteArray} {ea eb e1 e2 e3 : Int} (S : StkAt w0 w M K sp (l ++ [a, b])) (hm : (hp, L) ∈ M) (hX : MaxIs w0) (ka : a.kind = 8) (kb : b.kind = 8) (hH : HeldAll L [a, b]) (hx : bytesH L a = (x, ea)) (hy : bytesH L b = (y, eb)) (sx : x.size ≤ 40000) (sy : y.size ≤ 40000) (t : Int) (ht : Lib.index x.data.toList y.data.toList = t) (t0 : 0 ≤ t) (t1 : t + y.size ≤ x.size)
    (h1 : partH L a (t + y.size) (x.size - t - y.size) = (hb, e1)) (h2 : partH L a t y.size = (ib, e2)) (h3 : partH L a 0 t = (db, e3)) (m1 : mayO hb = true) (m2 : mayO ib = true) (m3 : mayO db = true) (hl : l.length + 4 ≤ 200) :
    Calls Tryz.prog 113 #[ptr hp, ptr sp, .int .i64 55] w fun r w' => r = .returned (.int .i64 0) ∧ StkAt w0 w' M K sp (l ++ [hb, ib, db, bO true]) := by
  have HF := hid' (fun (w' : World) (g : Nat) (K' : List (Nat × Obj)) (S' : StkAt w0 w' M ((g, .cells #[.int .i64 256, .int .i64 256] 3) :: K') sp (l ++ [a, b])) => hand_from S' hm [256, 256] g m0 rfl (fun i k o h1 h2 => by
    rcases i with _ | _ | i
    · simp at h1 h2; subst h1 h2; exact isK_str' _ ka
    · simp at h1 h2; subst h1 h2; exact isK_str' _ kb
    · simp at h1) hH 2 rfl)
  have HBX := hid' (fun (w' : World) (K' : List (Nat × Obj)) (S' : StkAt w0 w' M K' sp (l ++ [a, b])) => S'.ask (r := .tuple #[.string x, .int .i64 ea]) (fun K2 A => at_bytes A a hx hm))
  have HBY := hid' (fun (w' : World) (K' : List (Nat × Obj)) (S' : StkAt w0 w' M K' sp (l ++ [a, b])) => S'.ask (r := .tuple #[.string y, .int .i64 eb]) (fun K2 A => at_bytes A b hy hm))
  have HIX := hid' (fun (w' : World) (h : MaxIs w') => sidx_any x y w' (by omega) h)
  rw [ht] at HIX
  have HP1 := hid' (fun (w' : World) (K' : List (Nat × Obj)) (S' : StkAt w0 w' M K' sp (l ++ [a, b])) => S'.ask (r := .tuple #[hb.val, .int .i64 e1]) (fun K2 A => at_part A a _ _ h1 hm))
  have HP2 := hid' (fun (w' : World) (K' : List (Nat × Obj)) (S' : StkAt w0 w' M K' sp (l ++ [a, b])) => S'.ask (r := .tuple #[ib.val, .int .i64 e2]) (fun K2 A => at_part A a _ _ h2 hm))
  have HP3 := hid' (fun (w' : World) (K' : List (Nat × Obj)) (S' : StkAt w0 w' M K' sp (l ++ [a, b])) => S'.ask (r := .tuple #[db.val, .int .i64 e3]) (fun K2 A => at_part A a _ _ h3 hm))
  have HG := hid' (fun (W : World) (g : Nat) (K' : List (Nat × Obj)) (cur : Array Value) (hc : cur.toList = [hb, ib, db, bO true].flatMap O.cells) (S' : StkAt w0 W M ((g, .cells cur 38) :: K') sp (l ++ [a, b])) => giveB S' hc 2 rfl 4 rfl hl (fun o ho => by
    simp only [List.mem_cons, List.not_mem_nil, or_false] at ho
    rcases ho with rfl | rfl | rfl | rfl
    · exact m1
    · exact m2
    · exact m3
    · decide +kernel))
  have HMX := hid' hX
  have v1 := IntWalk.i64_in (t + y.size) (by omega)
  have v2 := IntWalk.i64_in ((x.size : Int) - t) (by omega)
  have v3 := IntWalk.i64_in ((x.size : Int) - t - y.size) (by omega)
  have d1 : decide (t < 0) = false := by simp; omega
  have S1 := S.alloc (.cells #[.int .i64 256, .int .i64 256] 3)
  obtain ⟨uk, ux, un, up, ul, us⟩ := a
  obtain ⟨vk, vx, vn, vp, vl, vs⟩ := b
  obtain ⟨rk, rx, rn, rp, rl, rs⟩ := hb
  obtain ⟨ek, ex, en, ep, el, es⟩ := ib
  obtain ⟨dk, dx, dn, dp, dl, ds⟩ := db
  have sx' : (x.size : Int) ≤ 40000 := by omega
  have sy' : (y.size : Int) ≤ 40000 := by omega
  clear S hm hX ka kb hH hx hy sx sy ht h1 h2 h3 m1 m2 m3 hl v1 v2 v3
  go_enter Tryz.func113, Tryz.ntmps113
  go_wp2_with fail
  refine (HF.out _ _ _ S1).mono ?_
  rintro r w2 ⟨g, cur, rfl, hc, S2⟩
  obtain ⟨q0, q1, q2, q3, q4, q5⟩ := at6 hc (m := 0) rfl
  obtain ⟨p0, p1, p2, p3, p4, p5⟩ := at6 hc (m := 1) rfl
  simp only [Nat.zero_mul, Nat.zero_add, Nat.one_mul, Nat.reduceAdd] at q0 q1 q2 q3 q4 q5 p0 p1 p2 p3 p4 p5
  clear hc S1
  (try clear Rg); (try clear yg); (try clear Zg)
  have Rg := cells_of (S2.box _ m0)
  have yg := blk_lt (S2.box _ m0)
  (try simp only at Rg yg)
  go_upto_region 5 with (fail)
  have S3 := S2.alloc (Obj.cells #[.int .i64 uk, .bool ux, .int .i64 un, .int .i64 up, .int .i64 ul, .string us] 38)
  generalize hW : w2.alloc _ = w3 at *
  clear hW S2
  (try clear Ra); (try clear ya); (try clear Za)
  have Ra := cells_of (S3.box _ m0)
  have ya := blk_lt (S3.box _ m0)
  (try clear Rg); (try clear yg); (try clear Zg)
  have Rg := cells_of (S3.box _ m1)
  have yg := blk_lt (S3.box _ m1)
  (try simp only at Ra ya Rg yg)
  go_wp2_with fail
  refine (HBX.out _ _ S3).mono ?_
  rintro r w4 ⟨rfl, S4⟩
  (try clear Ra); (try clear ya); (try clear Za)
  have Ra := cells_of (S4.box _ m0)
  have ya := blk_lt (S4.box _ m0)
  (try clear Rg); (try clear yg); (try clear Zg)
  have Rg := cells_of (S4.box _ m1)
  have yg := blk_lt (S4.box _ m1)
  (try simp only at Ra ya Rg yg)
  clear S3
  go_wp2_with fail
  refine (HBY.out _ _ S4).mono ?_
  rintro r w5 ⟨rfl, S5⟩
  (try clear Ra); (try clear ya); (try clear Za)
  have Ra := cells_of (S5.box _ m0)
  have ya := blk_lt (S5.box _ m0)
  (try clear Rg); (try clear yg); (try clear Zg)
  have Rg := cells_of (S5.box _ m1)
  have yg := blk_lt (S5.box _ m1)
  (try simp only at Ra ya Rg yg)
  clear S4
  go_wp2_with fail
  refine (HIX.out _ (HMX.out.chg S5.chg)).mono ?_
  rintro r w6 ⟨rfl, rfl⟩
  go_upto_region 8 with (fail)
  go_cut [60] (fun s60 wx => s60 = .bool false ∧ wx = w6)
  case first =>
    by_cases hz : 0 < t
    · have d2 : decide (0 < t) = true := by simpa using hz
      go_wp2_with fail
      go_meet
      exact ⟨rfl, rfl⟩
    · have d2 : decide (0 < t) = false := by simpa using hz
      go_wp2_with fail
      go_meet
      exact ⟨rfl, rfl⟩
  case rest =>
    obtain ⟨rfl, rfl⟩ := hcut
    go_upto_region 10 with (fail)
    (try clear Ra); (try clear ya); (try clear Za)
    have Ra := cells_of (S5.box _ m0)
    have ya := blk_lt (S5.box _ m0)
    (try clear Rg); (try clear yg); (try clear Zg)
    have Rg := cells_of (S5.box _ m1)
    have yg := blk_lt (S5.box _ m1)
    (try simp only at Ra ya Rg yg)
    go_wp2_with fail
    refine (HP1.out _ _ S5).mono ?_
    rintro r w7 ⟨rfl, S6⟩
    go_upto_region 11 with (fail)
    have S7 := S6.alloc (Obj.cells #[.int .i64 rk, .bool rx, .int .i64 rn, .int .i64 rp, .int .i64 rl, .string rs] 38)
    generalize hW : w7.alloc _ = w8 at *
    clear hW S6 S5
    (try clear Ra); (try clear ya); (try clear Za)
    have Ra := cells_of (S7.box _ m1)
    have ya := blk_lt (S7.box _ m1)
    (try clear Rr); (try clear yr); (try clear Zr)
    have Rr := cells_of (S7.box _ m0)
    have yr := blk_lt (S7.box _ m0)
    (try simp only at Ra ya Rr yr)
    go_wp2_with fail
    refine (HP2.out _ _ S7).mono ?_
    rintro r w9 ⟨rfl, S8⟩
    go_upto_region 12 with (fail)
    have S9 := S8.alloc (Obj.cells #[.int .i64 ek, .bool ex, .int .i64 en, .int .i64 ep, .int .i64 el, .string es] 38)
    generalize hW : w9.alloc _ = w10 at *
    clear hW S8 S7
    (try clear Ra); (try clear ya); (try clear Za)
    have Ra := cells_of (S9.box _ m2)
    have ya := blk_lt (S9.box _ m2)
    (try clear Rr); (try clear yr); (try clear Zr)
    have Rr := cells_of (S9.box _ m1)
    have yr := blk_lt (S9.box _ m1)
    (try clear Re); (try clear ye); (try clear Ze)
    have Re := cells_of (S9.box _ m0)
    have ye := blk_lt (S9.box _ m0)
    (try simp only at Ra ya Rr yr Re ye)
    go_wp2_with fail
    refine (HP3.out _ _ S9).mono ?_
    rintro r w11 ⟨rfl, S10⟩
    go_upto_region 13 with (fail)
    have S11 := S10.alloc (Obj.cells #[.int .i64 dk, .bool dx, .int .i64 dn, .int .i64 dp, .int .i64 dl, .string ds] 38)
    generalize hW : w11.alloc _ = w12 at *
    clear hW S10 S9
    (try clear Ra); (try clear ya); (try clear Za)
    have Ra := cells_of (S11.box _ m3)
    have ya := blk_lt (S11.box _ m3)
    (try clear Rr); (try clear yr); (try clear Zr)
    have Rr := cells_of (S11.box _ m2)
    have yr := blk_lt (S11.box _ m2)
    (try clear Re); (try clear ye); (try clear Ze)
    have Re := cells_of (S11.box _ m1)
    have ye := blk_lt (S11.box _ m1)
    (try clear Rd); (try clear yd); (try clear Zd)
    have Rd := cells_of (S11.box _ m0)
    have yd := blk_lt (S11.box _ m0)
    (try simp only at Ra ya Rr yr Re ye Rd yd)
    go_upto_region 15 with (fail)
    generalize w11.heap.size = b11 at *
    generalize w9.heap.size = b9 at *
    generalize w7.heap.size = b7 at *
    obtain ⟨KB, hKB⟩ : ∃ KB, KB = (b11, Obj.cells #[.int .i64 dk, .bool dx, .int .i64 dn, .int .i64 dp, .int .i64 dl, .string ds] 38) :: (b9, Obj.cells #[.int .i64 ek, .bool ex, .int .i64 en, .int .i64 ep, .int .i64 el, .string es] 38) :: (b7, Obj.cells #[.int .i64 rk, .bool rx, .int .i64 rn, .int .i64 rp, .int .i64 rl, .string rs] 38) :: (w2.heap.size, Obj.cells #[.int .i64 uk, .bool ux, .int .i64 un, .int .i64 up, .int .i64 ul, .string us] 38) :: (g, Obj.cells cur 38) :: (w.heap.size, Obj.cells #[.int .i64 256, .int .i64 256] 3) :: K := ⟨_, rfl⟩
    have nD : (b11, Obj.cells #[.int .i64 dk, .bool dx, .int .i64 dn, .int .i64 dp, .int .i64 dl, .string ds] 38) ∈ KB := by rw [hKB]; exact m0
    have nE : (b9, Obj.cells #[.int .i64 ek, .bool ex, .int .i64 en, .int .i64 ep, .int .i64 el, .string es] 38) ∈ KB := by rw [hKB]; exact m1
    have nR : (b7, Obj.cells #[.int .i64 rk, .bool rx, .int .i64 rn, .int .i64 rp, .int .i64 rl, .string rs] 38) ∈ KB := by rw [hKB]; exact m2
    rw [← hKB] at S11
    have HKB := hid' hKB
    clear Ra ya Rr yr Re ye Rd yd hKB q0 q1 q2 q3 q4 q5 p0 p1 p2 p3 p4 p5
    have QD := BS.cells (w0 := w0) (M := M) (sp := sp) nD
    have QE := BS.cells (w0 := w0) (M := M) (sp := sp) nE
    have QR := BS.cells (w0 := w0) (M := M) (sp := sp) nR
    have hS1 := BS.of S11
    have HS := hid' S11
    have HTR := hid' (fun w' => truth_b true w')
    clear S11 nD nE nR
    go_region_held3 (fun W' => BS w0 M sp KB W') (first | (with_reducible assumption) | (with_reducible exact BS.of S13) | (with_reducible exact BS.of S12) | (with_reducible exact BS.drew (by with_reducible assumption)) | (with_reducible exact BS.alloc (by with_reducible assumption) _))
      (first | (go_at_call 101; refine (HTR.out _).mono ?_; rintro r w13 ⟨rfl, X13⟩; have S12 : StkAt w0 w13 M KB sp (l ++ _) := (by first | exact HS.out.pure X13 | exact HS.out.drew.pure X13)) | (go_at_call 92; refine (HG.out _ _ KB _ (by rfl) (by first | exact S12.alloc _ | exact (S12.alloc _).drew | exact S12.drew.alloc _)).mono ?_; rintro r w14 ⟨rfl, S13⟩))
    go_wp2_with fail
    go_ret
    exact ⟨rfl, S13.keep (by rw [HKB.out]; exact (((((List.sublist_cons_self _ _).trans (List.sublist_cons_self _ _)).trans (List.sublist_cons_self _ _)).trans (List.sublist_cons_self _ _)).trans (List.sublist_cons_self _ _)).trans (List.sublist_cons_self _ _))⟩
end Go.Proofs.YteglbjcdlekbpaaGreat
/- Walk: seq.search, its other ends. -/
namespace Go.Proofs.YteglbjcdlekbpaaGreat
open Go.RowKit

set_option maxRecDepth 100000 in
set_option maxHeartbeats 4000000 in
theorem anchor_yes {w0 w : World} {M : List (Nat × List C)} {K : List (Nat × Obj)} {sp hp : Nat} {l : List O} {L : List C} {a b hb ib db : O} {x y : ByteArray} {ea eb e1 e2 e3 : Int} (S : StkAt w0 w M K sp (l ++ [a, b])) (hm : (hp, L) ∈ M) (hX : MaxIs w0) (ka : a.kind = 8) (kb : b.kind = 8) (hH : HeldAll L [a, b]) (hx : bytesH L a = (x, ea)) (hy : bytesH L b = (y, eb)) (sx : x.size ≤ 40000) (sy : y.size ≤ 40000) (t : Int) (ht : Lib.index x.data.toList y.data.toList = t) (t0 : 0 ≤ t) (t9 : t ≤ 0) (t1 : t + y.size ≤ x.size)
    (h1 : partH L a (t + y.size) (x.size - t - y.size) = (hb, e1)) (h2 : partH L a t y.size = (ib, e2)) (h3 : partH L a 0 t = (db, e3)) (m1 : mayO hb = true) (m2 : mayO ib = true) (hl : l.length + 3 ≤ 200) :
    Calls Tryz.prog 113 #[ptr hp, ptr sp, .int .i64 56] w fun r w' => r = .returned (.int .i64 0) ∧ StkAt w0 w' M K sp (l ++ [hb, ib, bO true]) := by
  have HF := hid' (fun (w' : World) (g : Nat) (K' : List (Nat × Obj)) (S' : StkAt w0 w' M ((g, .cells #[.int .i64 256, .int .i64 256] 3) :: K') sp (l ++ [a, b])) => hand_from S' hm [256, 256] g m0 rfl (fun i k o h1 h2 => by
    rcases i with _ | _ | i
    · simp at h1 h2; subst h1 h2; exact isK_str' _ ka
    · simp at h1 h2; subst h1 h2; exact isK_str' _ kb
    · simp at h1) hH 2 rfl)
  have HBX := hid' (fun (w' : World) (K' : List (Nat × Obj)) (S' : StkAt w0 w' M K' sp (l ++ [a, b])) => S'.ask (r := .tuple #[.string x, .int .i64 ea]) (fun K2 A => at_bytes A a hx hm))
  have HBY := hid' (fun (w' : World) (K' : List (Nat × Obj)) (S' : StkAt w0 w' M K' sp (l ++ [a, b])) => S'.ask (r := .tuple #[.string y, .int .i64 eb]) (fun K2 A => at_bytes A b hy hm))
  have HIX := hid' (fun (w' : World) (h : MaxIs w') => sidx_any x y w' (by omega) h)
  rw [ht] at HIX
  have HP1 := hid' (fun (w' : World) (K' : List (Nat × Obj)) (S' : StkAt w0 w' M K' sp (l ++ [a, b])) => S'.ask (r := .tuple #[hb.val, .int .i64 e1]) (fun K2 A => at_part A a _ _ h1 hm))
  have HP2 := hid' (fun (w' : World) (K' : List (Nat × Obj)) (S' : StkAt w0 w' M K' sp (l ++ [a, b])) => S'.ask (r := .tuple #[ib.val, .int .i64 e2]) (fun K2 A => at_part A a _ _ h2 hm))
  have HP3 := hid' (fun (w' : World) (K' : List (Nat × Obj)) (S' : StkAt w0 w' M K' sp (l ++ [a, b])) => S'.ask (r := .tuple #[db.val, .int .i64 e3]) (fun K2 A => at_part A a _ _ h3 hm))
  have HG := hid' (fun (W : World) (g : Nat) (K' : List (Nat × Obj)) (cur : Array Value) (hc : cur.toList = [hb, ib, bO true].flatMap O.cells) (S' : StkAt w0 W M ((g, .cells cur 38) :: K') sp (l ++ [a, b])) => giveB S' hc 2 rfl 3 rfl hl (fun o ho => by
    simp only [List.mem_cons, List.not_mem_nil, or_false] at ho
    rcases ho with rfl | rfl | rfl
    · exact m1
    · exact m2
    · decide +kernel))
  have HMX := hid' hX
  have v1 := IntWalk.i64_in (t + y.size) (by omega)
  have v2 := IntWalk.i64_in ((x.size : Int) - t) (by omega)
  have v3 := IntWalk.i64_in ((x.size : Int) - t - y.size) (by omega)
  have d1 : decide (t < 0) = false := by simp; omega
  have S1 := S.alloc (.cells #[.int .i64 256, .int .i64 256] 3)
  obtain ⟨uk, ux, un, up, ul, us⟩ := a
  obtain ⟨vk, vx, vn, vp, vl, vs⟩ := b
  obtain ⟨rk, rx, rn, rp, rl, rs⟩ := hb
  obtain ⟨ek, ex, en, ep, el, es⟩ := ib
  obtain ⟨dk, dx, dn, dp, dl, ds⟩ := db
  have sx' : (x.size : Int) ≤ 40000 := by omega
  have sy' : (y.size : Int) ≤ 40000 := by omega
  clear S hm hX ka kb hH hx hy sx sy ht h1 h2 h3 m1 m2 hl v1 v2 v3
  go_enter Tryz.func113, Tryz.ntmps113
  go_wp2_with fail
  refine (HF.out _ _ _ S1).mono ?_
  rintro r w2 ⟨g, cur, rfl, hc, S2⟩
  obtain ⟨q0, q1, q2, q3, q4, q5⟩ := at6 hc (m := 0) rfl
  obtain ⟨p0, p1, p2, p3, p4, p5⟩ := at6 hc (m := 1) rfl
  simp only [Nat.zero_mul, Nat.zero_add, Nat.one_mul, Nat.reduceAdd] at q0 q1 q2 q3 q4 q5 p0 p1 p2 p3 p4 p5
  clear hc S1
  (try clear Rg); (try clear yg); (try clear Zg)
  have Rg := cells_of (S2.box _ m0)
  have yg := blk_lt (S2.box _ m0)
  (try simp only at Rg yg)
  go_upto_region 5 with (fail)
  have S3 := S2.alloc (Obj.cells #[.int .i64 uk, .bool ux, .int .i64 un, .int .i64 up, .int .i64 ul, .string us] 38)
  generalize hW : w2.alloc _ = w3 at *
  clear hW S2
  (try clear Ra); (try clear ya); (try clear Za)
  have Ra := cells_of (S3.box _ m0)
  have ya := blk_lt (S3.box _ m0)
  (try clear Rg); (try clear yg); (try clear Zg)
  have Rg := cells_of (S3.box _ m1)
  have yg := blk_lt (S3.box _ m1)
  (try simp only at Ra ya Rg yg)
  go_wp2_with fail
  refine (HBX.out _ _ S3).mono ?_
  rintro r w4 ⟨rfl, S4⟩
  (try clear Ra); (try clear ya); (try clear Za)
  have Ra := cells_of (S4.box _ m0)
  have ya := blk_lt (S4.box _ m0)
  (try clear Rg); (try clear yg); (try clear Zg)
  have Rg := cells_of (S4.box _ m1)
  have yg := blk_lt (S4.box _ m1)
  (try simp only at Ra ya Rg yg)
  clear S3
  go_wp2_with fail
  refine (HBY.out _ _ S4).mono ?_
  rintro r w5 ⟨rfl, S5⟩
  (try clear Ra); (try clear ya); (try clear Za)
  have Ra := cells_of (S5.box _ m0)
  have ya := blk_lt (S5.box _ m0)
  (try clear Rg); (try clear yg); (try clear Zg)
  have Rg := cells_of (S5.box _ m1)
  have yg := blk_lt (S5.box _ m1)
  (try simp only at Ra ya Rg yg)
  clear S4
  go_wp2_with fail
  refine (HIX.out _ (HMX.out.chg S5.chg)).mono ?_
  rintro r w6 ⟨rfl, rfl⟩
  go_upto_region 8 with (fail)
  go_cut [60] (fun s60 wx => s60 = .bool false ∧ wx = w6)
  case first =>
    have d2 : decide (0 < t) = false := by simp; omega
    go_wp2_with fail
    go_meet
    exact ⟨rfl, rfl⟩
  case rest =>
    obtain ⟨rfl, rfl⟩ := hcut
    go_upto_region 10 with (fail)
    (try clear Ra); (try clear ya); (try clear Za)
    have Ra := cells_of (S5.box _ m0)
    have ya := blk_lt (S5.box _ m0)
    (try clear Rg); (try clear yg); (try clear Zg)
    have Rg := cells_of (S5.box _ m1)
    have yg := blk_lt (S5.box _ m1)
    (try simp only at Ra ya Rg yg)
    go_wp2_with fail
    refine (HP1.out _ _ S5).mono ?_
    rintro r w7 ⟨rfl, S6⟩
    go_upto_region 11 with (fail)
    have S7 := S6.alloc (Obj.cells #[.int .i64 rk, .bool rx, .int .i64 rn, .int .i64 rp, .int .i64 rl, .string rs] 38)
    generalize hW : w7.alloc _ = w8 at *
    clear hW S6 S5
    (try clear Ra); (try clear ya); (try clear Za)
    have Ra := cells_of (S7.box _ m1)
    have ya := blk_lt (S7.box _ m1)
    (try clear Rr); (try clear yr); (try clear Zr)
    have Rr := cells_of (S7.box _ m0)
    have yr := blk_lt (S7.box _ m0)
    (try simp only at Ra ya Rr yr)
    go_wp2_with fail
    refine (HP2.out _ _ S7).mono ?_
    rintro r w9 ⟨rfl, S8⟩
    go_upto_region 12 with (fail)
    have S9 := S8.alloc (Obj.cells #[.int .i64 ek, .bool ex, .int .i64 en, .int .i64 ep, .int .i64 el, .string es] 38)
    generalize hW : w9.alloc _ = w10 at *
    clear hW S8 S7
    (try clear Ra); (try clear ya); (try clear Za)
    have Ra := cells_of (S9.box _ m2)
    have ya := blk_lt (S9.box _ m2)
    (try clear Rr); (try clear yr); (try clear Zr)
    have Rr := cells_of (S9.box _ m1)
    have yr := blk_lt (S9.box _ m1)
    (try clear Re); (try clear ye); (try clear Ze)
    have Re := cells_of (S9.box _ m0)
    have ye := blk_lt (S9.box _ m0)
    (try simp only at Ra ya Rr yr Re ye)
    go_wp2_with fail
    refine (HP3.out _ _ S9).mono ?_
    rintro r w11 ⟨rfl, S10⟩
    go_upto_region 13 with (fail)
    have S11 := S10.alloc (Obj.cells #[.int .i64 dk, .bool dx, .int .i64 dn, .int .i64 dp, .int .i64 dl, .string ds] 38)
    generalize hW : w11.alloc _ = w12 at *
    clear hW S10 S9
    (try clear Ra); (try clear ya); (try clear Za)
    have Ra := cells_of (S11.box _ m3)
    have ya := blk_lt (S11.box _ m3)
    (try clear Rr); (try clear yr); (try clear Zr)
    have Rr := cells_of (S11.box _ m2)
    have yr := blk_lt (S11.box _ m2)
    (try clear Re); (try clear ye); (try clear Ze)
    have Re := cells_of (S11.box _ m1)
    have ye := blk_lt (S11.box _ m1)
    (try clear Rd); (try clear yd); (try clear Zd)
    have Rd := cells_of (S11.box _ m0)
    have yd := blk_lt (S11.box _ m0)
    (try simp only at Ra ya Rr yr Re ye Rd yd)
    go_upto_region 14 with (fail)
    generalize w11.heap.size = b11 at *
    generalize w9.heap.size = b9 at *
    generalize w7.heap.size = b7 at *
    obtain ⟨KB, hKB⟩ : ∃ KB, KB = (b11, Obj.cells #[.int .i64 dk, .bool dx, .int .i64 dn, .int .i64 dp, .int .i64 dl, .string ds] 38) :: (b9, Obj.cells #[.int .i64 ek, .bool ex, .int .i64 en, .int .i64 ep, .int .i64 el, .string es] 38) :: (b7, Obj.cells #[.int .i64 rk, .bool rx, .int .i64 rn, .int .i64 rp, .int .i64 rl, .string rs] 38) :: (w2.heap.size, Obj.cells #[.int .i64 uk, .bool ux, .int .i64 un, .int .i64 up, .int .i64 ul, .string us] 38) :: (g, Obj.cells cur 38) :: (w.heap.size, Obj.cells #[.int .i64 256, .int .i64 256] 3) :: K := ⟨_, rfl⟩
    have nE : (b9, Obj.cells #[.int .i64 ek, .bool ex, .int .i64 en, .int .i64 ep, .int .i64 el, .string es] 38) ∈ KB := by rw [hKB]; exact m1
    have nR : (b7, Obj.cells #[.int .i64 rk, .bool rx, .int .i64 rn, .int .i64 rp, .int .i64 rl, .string rs] 38) ∈ KB := by rw [hKB]; exact m2
    rw [← hKB] at S11
    have HKB := hid' hKB
    clear Ra ya Rr yr Re ye Rd yd hKB q0 q1 q2 q3 q4 q5 p0 p1 p2 p3 p4 p5
    have QE := BS.cells (w0 := w0) (M := M) (sp := sp) nE
    have QR := BS.cells (w0 := w0) (M := M) (sp := sp) nR
    have hS1 := BS.of S11
    have HS := hid' S11
    have HTR := hid' (fun w' => truth_b true w')
    clear S11 nE nR
    go_region_held3 (fun W' => BS w0 M sp KB W') (first | (with_reducible assumption) | (with_reducible exact BS.of S13) | (with_reducible exact BS.of S12) | (with_reducible exact BS.drew (by with_reducible assumption)) | (with_reducible exact BS.alloc (by with_reducible assumption) _))
      (first | (go_at_call 101; refine (HTR.out _).mono ?_; rintro r w13 ⟨rfl, X13⟩; have S12 : StkAt w0 w13 M KB sp (l ++ _) := (by first | exact HS.out.pure X13 | exact HS.out.drew.pure X13)) | (go_at_call 92; refine (HG.out _ _ KB _ (by rfl) (by first | exact S12.alloc _ | exact (S12.alloc _).drew | exact S12.drew.alloc _)).mono ?_; rintro r w14 ⟨rfl, S13⟩))
    go_wp2_with fail
    go_ret
    exact ⟨rfl, S13.keep (by rw [HKB.out]; exact (((((List.sublist_cons_self _ _).trans (List.sublist_cons_self _ _)).trans (List.sublist_cons_self _ _)).trans (List.sublist_cons_self _ _)).trans (List.sublist_cons_self _ _)).trans (List.sublist_cons_self _ _))⟩
end Go.Proofs.YteglbjcdlekbpaaGreat
/- Walk: seq.search, its other ends. -/
namespace Go.Proofs.YteglbjcdlekbpaaGreat
open Go.RowKit

set_option maxRecDepth 100000 in
set_option maxHeartbeats 4000000 in
theorem search_no {w0 w : World} {M : List (Nat × List C)} {K : List (Nat × Obj)} {sp hp : Nat} {l : List O} {L : List C} {a b : O} {x y : ByteArray} {ea eb : Int} (S : StkAt w0 w M K sp (l ++ [a, b])) (hm : (hp, L) ∈ M) (hX : MaxIs w0) (ka : a.kind = 8) (kb : b.kind = 8) (hH : HeldAll L [a, b]) (hx : bytesH L a = (x, ea)) (hy : bytesH L b = (y, eb)) (sx : x.size ≤ 40000) (sy : y.size ≤ 40000) (t : Int) (ht : Lib.index x.data.toList y.data.toList = t)
    (m1 : mayO a = true) (hl : l.length + 2 ≤ 200) (nn : Int) (hnn : nn = 55 ∨ nn = 56) (hcase : t < 0 ∨ (0 < t ∧ nn = 56)) :
    Calls Tryz.prog 113 #[ptr hp, ptr sp, .int .i64 nn] w fun r w' => r = .returned (.int .i64 0) ∧ StkAt w0 w' M K sp (l ++ [a, bO false]) := by
  have HF := hid' (fun (w' : World) (g : Nat) (K' : List (Nat × Obj)) (S' : StkAt w0 w' M ((g, .cells #[.int .i64 256, .int .i64 256] 3) :: K') sp (l ++ [a, b])) => hand_from S' hm [256, 256] g m0 rfl (fun i k o h1 h2 => by
    rcases i with _ | _ | i
    · simp at h1 h2; subst h1 h2; exact isK_str' _ ka
    · simp at h1 h2; subst h1 h2; exact isK_str' _ kb
    · simp at h1) hH 2 rfl)
  have HBX := hid' (fun (w' : World) (K' : List (Nat × Obj)) (S' : StkAt w0 w' M K' sp (l ++ [a, b])) => S'.ask (r := .tuple #[.string x, .int .i64 ea]) (fun K2 A => at_bytes A a hx hm))
  have HBY := hid' (fun (w' : World) (K' : List (Nat × Obj)) (S' : StkAt w0 w' M K' sp (l ++ [a, b])) => S'.ask (r := .tuple #[.string y, .int .i64 eb]) (fun K2 A => at_bytes A b hy hm))
  have HIX := hid' (fun (w' : World) (h : MaxIs w') => sidx_any x y w' (by omega) h)
  rw [ht] at HIX
  have HG := hid' (fun (W : World) (g : Nat) (K' : List (Nat × Obj)) (cur : Array Value) (hc : cur.toList = [a, bO false].flatMap O.cells) (S' : StkAt w0 W M ((g, .cells cur 38) :: K') sp (l ++ [a, b])) => giveB S' hc 2 rfl 2 rfl hl (fun o ho => by
    simp only [List.mem_cons, List.not_mem_nil, or_false] at ho
    rcases ho with rfl | rfl
    · exact m1
    · decide +kernel))
  have HMX := hid' hX
  have S1 := S.alloc (.cells #[.int .i64 256, .int .i64 256] 3)
  obtain ⟨uk, ux, un, up, ul, us⟩ := a
  obtain ⟨vk, vx, vn, vp, vl, vs⟩ := b
  have sx' : (x.size : Int) ≤ 40000 := by omega
  have sy' : (y.size : Int) ≤ 40000 := by omega
  clear S hm hX ka kb hH hx hy sx sy ht m1 hl
  go_enter Tryz.func113, Tryz.ntmps113
  go_wp2_with fail
  refine (HF.out _ _ _ S1).mono ?_
  rintro r w2 ⟨g, cur, rfl, hc, S2⟩
  obtain ⟨q0, q1, q2, q3, q4, q5⟩ := at6 hc (m := 0) rfl
  obtain ⟨p0, p1, p2, p3, p4, p5⟩ := at6 hc (m := 1) rfl
  simp only [Nat.zero_mul, Nat.zero_add, Nat.one_mul, Nat.reduceAdd] at q0 q1 q2 q3 q4 q5 p0 p1 p2 p3 p4 p5
  clear hc S1
  (try clear Rg); (try clear yg); (try clear Zg)
  have Rg := cells_of (S2.box _ m0)
  have yg := blk_lt (S2.box _ m0)
  (try simp only at Rg yg)
  go_upto_region 5 with (fail)
  have S3 := S2.alloc (Obj.cells #[.int .i64 uk, .bool ux, .int .i64 un, .int .i64 up, .int .i64 ul, .string us] 38)
  generalize hW : w2.alloc _ = w3 at *
  clear hW S2
  (try clear Ra); (try clear ya); (try clear Za)
  have Ra := cells_of (S3.box _ m0)
  have ya := blk_lt (S3.box _ m0)
  (try clear Rg); (try clear yg); (try clear Zg)
  have Rg := cells_of (S3.box _ m1)
  have yg := blk_lt (S3.box _ m1)
  (try simp only at Ra ya Rg yg)
  go_wp2_with fail
  refine (HBX.out _ _ S3).mono ?_
  rintro r w4 ⟨rfl, S4⟩
  (try clear Ra); (try clear ya); (try clear Za)
  have Ra := cells_of (S4.box _ m0)
  have ya := blk_lt (S4.box _ m0)
  (try clear Rg); (try clear yg); (try clear Zg)
  have Rg := cells_of (S4.box _ m1)
  have yg := blk_lt (S4.box _ m1)
  (try simp only at Ra ya Rg yg)
  clear S3
  go_wp2_with fail
  refine (HBY.out _ _ S4).mono ?_
  rintro r w5 ⟨rfl, S5⟩
  (try clear Ra); (try clear ya); (try clear Za)
  have Ra := cells_of (S5.box _ m0)
  have ya := blk_lt (S5.box _ m0)
  (try clear Rg); (try clear yg); (try clear Zg)
  have Rg := cells_of (S5.box _ m1)
  have yg := blk_lt (S5.box _ m1)
  (try simp only at Ra ya Rg yg)
  clear S4
  go_wp2_with fail
  refine (HIX.out _ (HMX.out.chg S5.chg)).mono ?_
  rintro r w6 ⟨rfl, rfl⟩
  go_upto_region 8 with (fail)
  go_cut [60] (fun s60 wx => s60 = .bool true ∧ wx = w6)
  case first =>
    rcases hcase with hz | ⟨hz, hz2⟩
    · have d1 : decide (t < 0) = true := by simpa using hz
      go_wp2_with fail
      go_meet
      exact ⟨rfl, rfl⟩
    · subst hz2
      have d1 : decide (t < 0) = false := by simp; omega
      have d2 : decide (0 < t) = true := by simpa using hz
      go_wp2_with fail
      go_meet
      exact ⟨rfl, rfl⟩
  case rest =>
    obtain ⟨rfl, rfl⟩ := hcut
    go_upto_region 9 with (fail)
    obtain ⟨KB, hKB⟩ : ∃ KB, KB = (w2.heap.size, Obj.cells #[.int .i64 uk, .bool ux, .int .i64 un, .int .i64 up, .int .i64 ul, .string us] 38) :: (g, Obj.cells cur 38) :: (w.heap.size, Obj.cells #[.int .i64 256, .int .i64 256] 3) :: K := ⟨_, rfl⟩
    have nU : (w2.heap.size, Obj.cells #[.int .i64 uk, .bool ux, .int .i64 un, .int .i64 up, .int .i64 ul, .string us] 38) ∈ KB := by rw [hKB]; exact m0
    rw [← hKB] at S5
    have HKB := hid' hKB
    clear Ra ya Rg yg hKB q0 q1 q2 q3 q4 q5 p0 p1 p2 p3 p4 p5
    have QU := BS.cells (w0 := w0) (M := M) (sp := sp) nU
    have hS1 := BS.of S5
    have HS := hid' S5
    have HTR := hid' (fun w' => truth_b false w')
    clear S5 nU
    go_region_held3 (fun W' => BS w0 M sp KB W') (first | (with_reducible assumption) | (with_reducible exact BS.of S13) | (with_reducible exact BS.of S12) | (with_reducible exact BS.drew (by with_reducible assumption)) | (with_reducible exact BS.alloc (by with_reducible assumption) _))
      (first | (go_at_call 101; refine (HTR.out _).mono ?_; rintro r w13 ⟨rfl, X13⟩; have S12 : StkAt w0 w13 M KB sp (l ++ _) := (by first | exact HS.out.pure X13 | exact HS.out.drew.pure X13)) | (go_at_call 92; refine (HG.out _ _ KB _ (by rfl) (by first | exact S12.alloc _ | exact (S12.alloc _).drew | exact S12.drew.alloc _)).mono ?_; rintro r w14 ⟨rfl, S13⟩))
    go_wp2_with fail
    go_ret
    exact ⟨rfl, S13.keep (by rw [HKB.out]; exact ((List.sublist_cons_self _ _).trans (List.sublist_cons_self _ _)).trans (List.sublist_cons_self _ _))⟩
end Go.Proofs.YteglbjcdlekbpaaGreat
/- Walks: seq.Do as far as search; known of tympanlaw19. -/
namespace Go.Proofs.YteglbjcdlekbpaaGreat
open Go.RowKit

theorem fam_is {i f : Nat} (h : (opT[i]?).map Prod.fst = some f) : ∃ bs, opT[i]? = some (f, bs) := by
  cases e : opT[i]? with
  | none => simp [e] at h
  | some p => simp [e] at h; exact ⟨p.2, by rw [← h]⟩
set_option maxRecDepth 100000 in
theorem sdo_55 {w0 w : World} {M M' : List (Nat × List C)} {K : List (Nat × Obj)} {sp hp : Nat} {l l' : List O} {e : Int} (S : StkAt w0 w M K sp l)
    (HS : ∀ w', StkAt w0 w' M K sp l → Calls Tryz.prog 113 #[ptr hp, ptr sp, .int .i64 55] w' fun r w2 => r = .returned (.int .i64 e) ∧ StkAt w0 w2 M' K sp l') :
    Calls Tryz.prog 59 #[ptr hp, ptr sp, .int .i64 55] w fun r w' => r = .returned (.int .i64 e) ∧ StkAt w0 w' M' K sp l' := by
  obtain ⟨bs, hbs⟩ := fam_is (i := 54) (f := 2) (by decide +kernel)
  have HF := hid' (fun w' => family_at 54 2 bs hbs w')
  have HS := hid' HS
  clear hbs
  go_enter Tryz.func59, Tryz.ntmps59
  go_wp2_with fail
  refine (HF.out _).mono ?_
  rintro r w2 ⟨rfl, X2⟩
  have S2 := S.pure X2
  clear S X2
  go_wp2_with fail
  refine (HS.out _ S2).mono ?_
  rintro r w3 ⟨rfl, S3⟩
  go_wp2_with fail
  go_ret
  exact ⟨rfl, S3⟩
set_option maxRecDepth 100000 in
theorem sdo_56 {w0 w : World} {M M' : List (Nat × List C)} {K : List (Nat × Obj)} {sp hp : Nat} {l l' : List O} {e : Int} (S : StkAt w0 w M K sp l)
    (HS : ∀ w', StkAt w0 w' M K sp l → Calls Tryz.prog 113 #[ptr hp, ptr sp, .int .i64 56] w' fun r w2 => r = .returned (.int .i64 e) ∧ StkAt w0 w2 M' K sp l') :
    Calls Tryz.prog 59 #[ptr hp, ptr sp, .int .i64 56] w fun r w' => r = .returned (.int .i64 e) ∧ StkAt w0 w' M' K sp l' := by
  obtain ⟨bs, hbs⟩ := fam_is (i := 55) (f := 2) (by decide +kernel)
  have HF := hid' (fun w' => family_at 55 2 bs hbs w')
  have HS := hid' HS
  clear hbs
  go_enter Tryz.func59, Tryz.ntmps59
  go_wp2_with fail
  refine (HF.out _).mono ?_
  rintro r w2 ⟨rfl, X2⟩
  have S2 := S.pure X2
  clear S X2
  go_wp2_with fail
  refine (HS.out _ S2).mono ?_
  rintro r w3 ⟨rfl, S3⟩
  go_wp2_with fail
  go_ret
  exact ⟨rfl, S3⟩
theorem op_anchor (w : World) : Calls Tryz.prog 12 #[.string ⟨#[97, 110, 99, 104, 111, 114, 115, 101, 97, 114, 99, 104]⟩] w fun r w2 => r = .returned (.tuple #[.int .i64 56, .bool true]) ∧ Chg NoB w w2 := number_hit 55 2 [97, 110, 99, 104, 111, 114, 115, 101, 97, 114, 99, 104] (by decide +kernel) w
theorem op_search (w : World) : Calls Tryz.prog 12 #[.string ⟨#[115, 101, 97, 114, 99, 104]⟩] w fun r w2 => r = .returned (.tuple #[.int .i64 55, .bool true]) ∧ Chg NoB w w2 := number_hit 54 2 [115, 101, 97, 114, 99, 104] (by decide +kernel) w
abbrev k19a : ByteArray := ⟨#[97, 98, 99, 100]⟩
abbrev k19b : ByteArray := ⟨#[98, 99]⟩
theorem k19_L : ([] ++ [txt k19a.toList] ++ [txt k19b.toList] : List C) = [txt [97, 98, 99, 100], txt [98, 99]] := by
  simp [ByteArray.toList_eq]
abbrev k19L : List C := [txt [97, 98, 99, 100], txt [98, 99]]
theorem k19_bytes : bytesH k19L (strN 0 false 0 4) = (k19a, 0) ∧ bytesH k19L (strN 1 false 0 2) = (k19b, 0) ∧ bytesH k19L (strN 0 false 0 1) = (⟨#[97]⟩, 0) ∧ bytesH k19L (strN 0 false 1 2) = (⟨#[98, 99]⟩, 0) ∧ bytesH k19L (strN 0 false 3 1) = (⟨#[100]⟩, 0) := by decide +kernel
theorem k19_parts : partH k19L (strN 0 false 0 4) (1 + (2 : Nat)) ((4 : Nat) - 1 - (2 : Nat)) = (strN 0 false 3 1, 0) ∧ partH k19L (strN 0 false 0 4) 1 (2 : Nat) = (strN 0 false 1 2, 0) ∧ partH k19L (strN 0 false 0 4) 0 1 = (strN 0 false 0 1, 0) := ⟨by rfl, by rfl, by rfl⟩
theorem k19_index : Lib.index k19a.data.toList k19b.data.toList = 1 := by decide +kernel
theorem k19_held : HeldAll k19L [strN 0 false 0 4, strN 1 false 0 2] := by
  intro x hx _
  simp only [List.mem_cons, List.not_mem_nil, or_false] at hx
  rcases hx with rfl | rfl
  · decide +kernel
  · decide +kernel
set_option maxRecDepth 100000 in
set_option maxHeartbeats 1000000 in
theorem known19_any (w : World) (hX : MaxIs w) : Calls Tryz.prog 28 #[] w fun e w' => e = .returned (.bool true) ∧ Chg NoB w w' := by
  have HX := hid' hX
  obtain ⟨b1, b2, b3, b4, b5⟩ := k19_bytes
  obtain ⟨p1, p2, p3⟩ := k19_parts
  have HSE := hid' (fun (hp sp : Nat) (w' : World) (K' : List (Nat × Obj)) (S' : StkAt w w' [(hp, k19L)] K' sp ([] ++ [strN 0 false 0 4, strN 1 false 0 2])) =>
    search_yes S' m0 hX rfl rfl k19_held b1 b2 (by decide) (by decide) 1 k19_index (by decide) (by decide) p1 p2 p3 (by decide +kernel) (by decide +kernel) (by decide +kernel) (by decide))
  have HDO := hid' (fun (hp sp : Nat) (w' : World) (K' : List (Nat × Obj)) (S' : StkAt w w' [(hp, k19L)] K' sp ([] ++ [strN 0 false 0 4, strN 1 false 0 2])) => sdo_55 S' (fun w2 S2 => HSE.out hp sp w2 K' S2))
  have HT1 := hid' (fun (hp sp gp tp : Nat) (w' : World) (K' : List (Nat × Obj)) (G : List C) (lt : List O) (S' : SeqAt w w' hp sp gp tp k19L G ([] ++ [strN 0 false 3 1, strN 0 false 1 2, strN 0 false 0 1, bO true]) lt K') => top19_any S' 1 2 (strN 0 false 0 1) rfl rfl ⟨#[97]⟩ 0 b3)
  have HT2 := hid' (fun (hp sp gp tp : Nat) (w' : World) (K' : List (Nat × Obj)) (G : List C) (lt : List O) (S' : SeqAt w w' hp sp gp tp k19L G ([] ++ [strN 0 false 3 1, strN 0 false 1 2, strN 0 false 0 1, bO true]) lt K') => top19_any S' 2 1 (strN 0 false 1 2) rfl rfl ⟨#[98, 99]⟩ 0 b4)
  have HT3 := hid' (fun (hp sp gp tp : Nat) (w' : World) (K' : List (Nat × Obj)) (G : List C) (lt : List O) (S' : SeqAt w w' hp sp gp tp k19L G ([] ++ [strN 0 false 3 1, strN 0 false 1 2, strN 0 false 0 1, bO true]) lt K') => top19_any S' 3 0 (strN 0 false 3 1) rfl rfl ⟨#[100]⟩ 0 b5)
  clear b1 b2 b3 b4 b5 p1 p2 p3 HSE hX
  go_enter Tryz.func28, Tryz.ntmps28
  go_wp2_with fail
  refine (fresh19_any (Ats.start (Chg.refl NoB w))).mono ?_
  rintro r w1 ⟨hp, sp, gp, tp, rfl, S1⟩
  have S2 := S1.alloc (qBox hp sp gp tp)
  (try clear Ra); (try clear ya); (try clear Za)
  have Ra := cells_of (S2.box _ m0)
  have ya := blk_lt (S2.box _ m0)
  (try simp only at Ra ya)
  go_wp2_with fail
  refine (text19_any S2 k19a (by decide) (by decide) (by decide) (by decide)).mono ?_
  rintro r w3 ⟨rfl, S3⟩
  (try clear Ra); (try clear ya); (try clear Za)
  have Ra := cells_of (S3.box _ m0)
  have ya := blk_lt (S3.box _ m0)
  (try simp only at Ra ya)
  clear S1 S2
  go_wp2_with fail
  refine (text19_any S3 k19b (by decide) (by simp [ByteArray.toList_eq, used, C.size]; decide) (by decide) (by decide)).mono ?_
  rintro r w4 ⟨rfl, S4⟩
  have S5 : SeqAt w w4 hp sp gp tp k19L k19L ([] ++ [strN 0 false 0 4, strN 1 false 0 2]) ([] ++ [strN 0 false 0 4, strN 1 false 0 2]) [(w1.heap.size, qBox hp sp gp tp)] := by
    have e1 := k19_L
    rw [e1] at S4
    exact S4
  (try clear Ra); (try clear ya); (try clear Za)
  have Ra := cells_of (S5.box _ m0)
  have ya := blk_lt (S5.box _ m0)
  (try simp only at Ra ya)
  clear S3 S4
  go_wp2_with fail
  refine (do19_any S5 ⟨#[115, 101, 97, 114, 99, 104]⟩ 55 0 true op_search (fun w' K' S' => HDO.out hp sp w' K' S')).mono ?_
  rintro r w6 ⟨rfl, S6⟩
  (try clear Ra); (try clear ya); (try clear Za)
  have Ra := cells_of (S6.box _ m0)
  have ya := blk_lt (S6.box _ m0)
  (try simp only at Ra ya)
  clear S5
  have HL := hid' (S6.stk (L' := k19L) (l' := [] ++ [strN 0 false 3 1, strN 0 false 1 2, strN 0 false 0 1, bO true]) (r := .int .i64 4) (fun K2 S2 => (stk_len S2).mono fun _ _ h => ⟨h.1, h.2 ▸ S2⟩))
  go_wp2_with fail
  refine HL.out.mono ?_
  rintro r w7 ⟨rfl, S7⟩
  (try clear Ra); (try clear ya); (try clear Za)
  have Ra := cells_of (S7.box _ m0)
  have ya := blk_lt (S7.box _ m0)
  (try simp only at Ra ya)
  clear HL S6
  go_wp2_with fail
  refine (HT1.out _ _ _ _ _ _ _ _ S7).mono ?_
  rintro r w8 ⟨rfl, S8⟩
  (try clear Ra); (try clear ya); (try clear Za)
  have Ra := cells_of (S8.box _ m0)
  have ya := blk_lt (S8.box _ m0)
  (try simp only at Ra ya)
  clear S7
  go_wp2_with fail
  refine (HT2.out _ _ _ _ _ _ _ _ S8).mono ?_
  rintro r w9 ⟨rfl, S9⟩
  (try clear Ra); (try clear ya); (try clear Za)
  have Ra := cells_of (S9.box _ m0)
  have ya := blk_lt (S9.box _ m0)
  (try simp only at Ra ya)
  clear S8
  go_wp2_with fail
  refine (HT3.out _ _ _ _ _ _ _ _ S9).mono ?_
  rintro r w10 ⟨rfl, S10⟩
  go_wp2_with fail
  go_ret
  exact ⟨rfl, S10.chg⟩
end Go.Proofs.YteglbjcdlekbpaaGreat
