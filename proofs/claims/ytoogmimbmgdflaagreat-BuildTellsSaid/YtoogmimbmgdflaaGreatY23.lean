/- Parts of the proof: Ra8. -/
import Derived.Test.YtoogmimbmgdflaaGreatY22
namespace Go.Proofs.YtoogmimbmgdflaaGreat
open Go.RowKit
theorem empty_bool (s : ByteArray) (z : s.size = 0) : s.toList.isEmpty = true := by rw [isEmpty_size]; simpa using z
theorem empty_no (s : ByteArray) (z : ¬ s.size = 0) : s.toList.isEmpty = false := by rw [isEmpty_size]; simpa using z
set_option maxRecDepth 100000 in
set_option maxHeartbeats 1000000 in
theorem rmay_1 (n p : Int) (s : ByteArray) (w : World) :
 Calls Tryz.prog 44 #[Tok.val ⟨1, n, s, p⟩] w fun r w' => r = .returned (.bool (decide (s.size = 0) && decide (-2147483647 ≤ n) && decide (n ≤ 2147483647))) ∧ Chg NoB w w' := by
 by_cases z : s.size = 0
 · have e := empty_bool s z
   by_cases a1 : -2147483647 ≤ n
   all_goals by_cases a2 : n ≤ 2147483647
   all_goals first | (exfalso; omega) | skip
   all_goals
    have HV := hid' (show (decide (s.size = 0) && decide (-2147483647 ≤ n) && decide (n ≤ 2147483647)) = _ from by rw [decide_eq_true z, Bool.true_and]); rw [HV.out]; clear z HV; have hb := blk_new w (tokBox 1 n s p); have X := (Chg.refl NoB w).alloc (tokBox 1 n s p); go_enter Tryz.func44, Tryz.ntmps44
    go_upto_region 1 with (fail)
    generalize w.alloc _ = w1 at *; generalize w.heap.size = b at *; have R := cells_of hb; have l1 := blk_lt hb
    go_quiet (fail)
    have hb2 : (w1.drewN nq).heap[b]? = some (tokBox 1 n s p) := hb; have X2 := X.drewN nq; generalize w1.drewN nq = w2 at *; clear hb X R l1; have R := cells_of hb2; have l1 := blk_lt hb2; go_wp2_with fail
    go_ret; exact ⟨by simp [a1, a2], X2⟩
 · have e := empty_no s z; rw [decide_eq_false z, Bool.false_and, Bool.false_and]; clear z; have hb := blk_new w (tokBox 1 n s p); have X := (Chg.refl NoB w).alloc (tokBox 1 n s p); go_enter Tryz.func44, Tryz.ntmps44
   go_upto_region 1 with (fail)
   generalize w.alloc _ = w1 at *; generalize w.heap.size = b at *; have R := cells_of hb; have l1 := blk_lt hb
   go_quiet (fail)
   have hb2 : (w1.drewN nq).heap[b]? = some (tokBox 1 n s p) := hb; have X2 := X.drewN nq; generalize w1.drewN nq = w2 at *; clear hb X R l1; have R := cells_of hb2; have l1 := blk_lt hb2; go_wp2_with fail
   go_ret; exact ⟨rfl, X2⟩
set_option maxRecDepth 100000 in
set_option maxHeartbeats 1000000 in
theorem rmay_2 (n p : Int) (s : ByteArray) (w : World) :
 Calls Tryz.prog 44 #[Tok.val ⟨2, n, s, p⟩] w fun r w' => r = .returned (.bool (decide (s.size = 0) && decide (-1073741823 ≤ n) && decide (n ≤ 1073741823))) ∧ Chg NoB w w' := by
 have HM := hid' (fun w => may3_any n w)
 by_cases z : s.size = 0
 · have e := empty_bool s z; rw [decide_eq_true z, Bool.true_and]; generalize (decide (-1073741823 ≤ n) && decide (n ≤ 1073741823)) = v at *; have hb := blk_new w (tokBox 2 n s p); have X := (Chg.refl NoB w).alloc (tokBox 2 n s p); go_enter Tryz.func44, Tryz.ntmps44
   go_upto_region 1 with (fail)
   generalize w.alloc _ = w1 at *; generalize w.heap.size = b at *; have R := cells_of hb; have l1 := blk_lt hb
   go_quiet (fail)
   have hb2 : (w1.drewN nq).heap[b]? = some (tokBox 2 n s p) := hb; have X2 := X.drewN nq; generalize w1.drewN nq = w2 at *; clear hb X R l1; have R := cells_of hb2; have l1 := blk_lt hb2; go_wp2_with fail
   refine (HM.out _).mono ?_; rintro e w3 ⟨rfl, rfl⟩; go_wp2_with fail
   go_ret; exact ⟨rfl, X2⟩
 · have e := empty_no s z; rw [decide_eq_false z, Bool.false_and, Bool.false_and]; clear z; have hb := blk_new w (tokBox 2 n s p); have X := (Chg.refl NoB w).alloc (tokBox 2 n s p); go_enter Tryz.func44, Tryz.ntmps44
   go_upto_region 1 with (fail)
   generalize w.alloc _ = w1 at *; generalize w.heap.size = b at *; have R := cells_of hb; have l1 := blk_lt hb
   go_quiet (fail)
   have hb2 : (w1.drewN nq).heap[b]? = some (tokBox 2 n s p) := hb; have X2 := X.drewN nq; generalize w1.drewN nq = w2 at *; clear hb X R l1; have R := cells_of hb2; have l1 := blk_lt hb2; go_wp2_with fail
   go_ret; exact ⟨rfl, X2⟩
set_option maxRecDepth 100000 in
set_option maxHeartbeats 1000000 in
theorem rmay_3 (n p : Int) (s : ByteArray) (hs : s.size ≤ 9223372036854775807) (v : Bool) (hv : (decide (n = 0) && decide ((readF s.toList).2.2 = 3) && decide (s.size ≠ 0) && decide (s.size ≤ 100) && decide (regL s.toList = s.size)) = v) (w : World) :
 Calls Tryz.prog 44 #[Tok.val ⟨3, n, s, p⟩] w fun r w' => r = .returned (.bool v) ∧ Chg NoB w w' := by
 have HD := hid' (fun w => rread6_any s hs w); have HR := hid' (fun w => rregular_any s 0 hs (by omega) w); rw [List.drop_zero] at HR; generalize readF s.toList = RD at *; obtain ⟨rk, rv, re⟩ := RD; simp only at hv
 by_cases c0 : n = 0
 rotate_left
 · have e0 : (n == 0) = false := by simpa using c0
   have e1 : v = false := by rw [← hv]; simp [c0]
   subst e1; clear hv c0; have hb := blk_new w (tokBox 3 n s p); have X := (Chg.refl NoB w).alloc (tokBox 3 n s p); go_enter Tryz.func44, Tryz.ntmps44
   go_upto_region 1 with (fail)
   generalize w.alloc _ = w1 at *; generalize w.heap.size = b at *; have R := cells_of hb; have l1 := blk_lt hb
   go_quiet (fail)
   have hb2 : (w1.drewN nq).heap[b]? = some (tokBox 3 n s p) := hb; have X2 := X.drewN nq; generalize w1.drewN nq = w2 at *; clear hb X R l1; have R := cells_of hb2; have l1 := blk_lt hb2; go_wp2_with fail
   refine (HD.out _).mono ?_; rintro e w3 ⟨rfl, X3⟩; have hb3 := X3.blk hb2 id; have X4 := X2.trans X3; clear hb2 X2 X3 R l1; have R := cells_of hb3; have l1 := blk_lt hb3
   go_upto_region 11 with (fail)
   go_quiet (fail)
   go_wp2_with fail
   go_ret; exact ⟨rfl, X4.drewN _⟩
 have e0 : (n == 0) = true := by simpa using c0
 by_cases c1 : s.size ≤ 100
 rotate_left
 · have d1 : decide ((s.size : Int) ≤ 100) = false := by simp; omega
   have e1 : v = false := by rw [← hv]; simp [c1]
   subst e1; clear hv c0; have hb := blk_new w (tokBox 3 n s p); have X := (Chg.refl NoB w).alloc (tokBox 3 n s p); go_enter Tryz.func44, Tryz.ntmps44
   go_upto_region 1 with (fail)
   generalize w.alloc _ = w1 at *; generalize w.heap.size = b at *; have R := cells_of hb; have l1 := blk_lt hb
   go_quiet (fail)
   have hb2 : (w1.drewN nq).heap[b]? = some (tokBox 3 n s p) := hb; have X2 := X.drewN nq; generalize w1.drewN nq = w2 at *; clear hb X R l1; have R := cells_of hb2; have l1 := blk_lt hb2; go_wp2_with fail
   refine (HD.out _).mono ?_; rintro e w3 ⟨rfl, X3⟩; have hb3 := X3.blk hb2 id; have X4 := X2.trans X3; clear hb2 X2 X3 R l1; have R := cells_of hb3; have l1 := blk_lt hb3
   go_upto_region 11 with (fail)
   go_quiet (fail)
   go_wp2_with fail
   go_ret; exact ⟨rfl, X4.drewN _⟩
 have d1 : decide ((s.size : Int) ≤ 100) = true := by simp; omega
 have hri : decide (regL s.toList = s.size) = (((regL s.toList : Nat) : Int) == (s.size : Int)) := by
  rw [Bool.eq_iff_iff]; simp; omega
 rw [hri, decide_eq_true c0, decide_eq_true c1] at hv; generalize ((regL s.toList : Nat) : Int) = rg at *
 obtain ⟨g, hg⟩ : ∃ g, (rg == (s.size : Int)) = g := ⟨_, rfl⟩
 rw [hg] at hv
 cases g with
 | false =>
  have e1 : v = false := by rw [← hv]; simp
  subst e1; clear hri c0 c1 hv; have hb := blk_new w (tokBox 3 n s p); have X := (Chg.refl NoB w).alloc (tokBox 3 n s p); go_enter Tryz.func44, Tryz.ntmps44
  go_upto_region 1 with (fail)
  generalize w.alloc _ = w1 at *; generalize w.heap.size = b at *; have R := cells_of hb; have l1 := blk_lt hb
  go_quiet (fail)
  have hb2 : (w1.drewN nq).heap[b]? = some (tokBox 3 n s p) := hb; have X2 := X.drewN nq; generalize w1.drewN nq = w2 at *; clear hb X R l1; have R := cells_of hb2; have l1 := blk_lt hb2; go_wp2_with fail
  refine (HD.out _).mono ?_; rintro e w3 ⟨rfl, X3⟩; have hb3 := X3.blk hb2 id; have X4 := X2.trans X3; clear hb2 X2 X3 R l1; have R := cells_of hb3; have l1 := blk_lt hb3
  go_upto_region 11 with (fail)
  go_quiet ((go_at_call 81; exact quiet_lf (HR.out _)))
  go_wp2_with fail
  go_ret; exact ⟨rfl, X4.drewN _⟩
 | true =>
  by_cases z : s.size = 0
  · have e := empty_bool s z
    have e1 : v = false := by rw [← hv]; simp [z]
    subst e1; clear hri c0 c1 hv z; have hb := blk_new w (tokBox 3 n s p); have X := (Chg.refl NoB w).alloc (tokBox 3 n s p); go_enter Tryz.func44, Tryz.ntmps44
    go_upto_region 1 with (fail)
    generalize w.alloc _ = w1 at *; generalize w.heap.size = b at *; have R := cells_of hb; have l1 := blk_lt hb
    go_quiet (fail)
    have hb2 : (w1.drewN nq).heap[b]? = some (tokBox 3 n s p) := hb; have X2 := X.drewN nq; generalize w1.drewN nq = w2 at *; clear hb X R l1; have R := cells_of hb2; have l1 := blk_lt hb2; go_wp2_with fail
    refine (HD.out _).mono ?_; rintro e w3 ⟨rfl, X3⟩; have hb3 := X3.blk hb2 id; have X4 := X2.trans X3; clear hb2 X2 X3 R l1; have R := cells_of hb3; have l1 := blk_lt hb3
    go_upto_region 11 with (fail)
    go_quiet ((go_at_call 81; exact quiet_lf (HR.out _)))
    go_wp2_with fail
    go_ret; exact ⟨rfl, X4.drewN _⟩
  · have e := empty_no s z
    have e2 : (re == 3) = v := by rw [← hv]; simp [z]; rw [Bool.eq_iff_iff]; simp
    clear hri c0 c1 hv z
    cases v with
    | true =>
     have hb := blk_new w (tokBox 3 n s p); have X := (Chg.refl NoB w).alloc (tokBox 3 n s p); go_enter Tryz.func44, Tryz.ntmps44
     go_upto_region 1 with (fail)
     generalize w.alloc _ = w1 at *; generalize w.heap.size = b at *; have R := cells_of hb; have l1 := blk_lt hb
     go_quiet (fail)
     have hb2 : (w1.drewN nq).heap[b]? = some (tokBox 3 n s p) := hb; have X2 := X.drewN nq; generalize w1.drewN nq = w2 at *; clear hb X R l1; have R := cells_of hb2; have l1 := blk_lt hb2; go_wp2_with fail
     refine (HD.out _).mono ?_; rintro e w3 ⟨rfl, X3⟩; have hb3 := X3.blk hb2 id; have X4 := X2.trans X3; clear hb2 X2 X3 R l1; have R := cells_of hb3; have l1 := blk_lt hb3
     go_upto_region 11 with (fail)
     go_quiet ((go_at_call 81; exact quiet_lf (HR.out _)))
     go_wp2_with fail
     go_ret; exact ⟨rfl, X4.drewN _⟩
    | false =>
     have hb := blk_new w (tokBox 3 n s p); have X := (Chg.refl NoB w).alloc (tokBox 3 n s p); go_enter Tryz.func44, Tryz.ntmps44
     go_upto_region 1 with (fail)
     generalize w.alloc _ = w1 at *; generalize w.heap.size = b at *; have R := cells_of hb; have l1 := blk_lt hb
     go_quiet (fail)
     have hb2 : (w1.drewN nq).heap[b]? = some (tokBox 3 n s p) := hb; have X2 := X.drewN nq; generalize w1.drewN nq = w2 at *; clear hb X R l1; have R := cells_of hb2; have l1 := blk_lt hb2; go_wp2_with fail
     refine (HD.out _).mono ?_; rintro e w3 ⟨rfl, X3⟩; have hb3 := X3.blk hb2 id; have X4 := X2.trans X3; clear hb2 X2 X3 R l1; have R := cells_of hb3; have l1 := blk_lt hb3
     go_upto_region 11 with (fail)
     go_quiet ((go_at_call 81; exact quiet_lf (HR.out _)))
     go_wp2_with fail
     go_ret; exact ⟨rfl, X4.drewN _⟩
set_option maxRecDepth 100000 in
set_option maxHeartbeats 1000000 in
theorem rmay_4 (n p : Int) (s : ByteArray) (hs : s.size ≤ 9223372036854775807) (v : Bool) (hv : (decide (n = 0) && decide (s.size ≤ 100) && decide (regL s.toList = s.size)) = v) (w : World) :
 Calls Tryz.prog 44 #[Tok.val ⟨4, n, s, p⟩] w fun r w' => r = .returned (.bool v) ∧ Chg NoB w w' := by
 have HD := hid' (fun w => rread6_any s hs w); have HR := hid' (fun w => rregular_any s 0 hs (by omega) w); rw [List.drop_zero] at HR; generalize readF s.toList = RD at *; obtain ⟨rk, rv, re⟩ := RD
 by_cases c0 : n = 0
 rotate_left
 · have e0 : (n == 0) = false := by simpa using c0
   have e1 : v = false := by rw [← hv]; simp [c0]
   subst e1; clear hv c0; have hb := blk_new w (tokBox 4 n s p); have X := (Chg.refl NoB w).alloc (tokBox 4 n s p); go_enter Tryz.func44, Tryz.ntmps44
   go_upto_region 1 with (fail)
   generalize w.alloc _ = w1 at *; generalize w.heap.size = b at *; have R := cells_of hb; have l1 := blk_lt hb
   go_quiet (fail)
   have hb2 : (w1.drewN nq).heap[b]? = some (tokBox 4 n s p) := hb; have X2 := X.drewN nq; generalize w1.drewN nq = w2 at *; clear hb X R l1; have R := cells_of hb2; have l1 := blk_lt hb2; go_wp2_with fail
   refine (HD.out _).mono ?_; rintro e w3 ⟨rfl, X3⟩; have hb3 := X3.blk hb2 id; have X4 := X2.trans X3; clear hb2 X2 X3 R l1; have R := cells_of hb3; have l1 := blk_lt hb3
   go_upto_region 11 with (fail)
   go_quiet (fail)
   go_wp2_with fail
   go_ret; exact ⟨rfl, X4.drewN _⟩
 have e0 : (n == 0) = true := by simpa using c0
 by_cases c1 : s.size ≤ 100
 rotate_left
 · have d1 : decide ((s.size : Int) ≤ 100) = false := by simp; omega
   have e1 : v = false := by rw [← hv]; simp [c1]
   subst e1; clear hv c0; have hb := blk_new w (tokBox 4 n s p); have X := (Chg.refl NoB w).alloc (tokBox 4 n s p); go_enter Tryz.func44, Tryz.ntmps44
   go_upto_region 1 with (fail)
   generalize w.alloc _ = w1 at *; generalize w.heap.size = b at *; have R := cells_of hb; have l1 := blk_lt hb
   go_quiet (fail)
   have hb2 : (w1.drewN nq).heap[b]? = some (tokBox 4 n s p) := hb; have X2 := X.drewN nq; generalize w1.drewN nq = w2 at *; clear hb X R l1; have R := cells_of hb2; have l1 := blk_lt hb2; go_wp2_with fail
   refine (HD.out _).mono ?_; rintro e w3 ⟨rfl, X3⟩; have hb3 := X3.blk hb2 id; have X4 := X2.trans X3; clear hb2 X2 X3 R l1; have R := cells_of hb3; have l1 := blk_lt hb3
   go_upto_region 11 with (fail)
   go_quiet (fail)
   go_wp2_with fail
   go_ret; exact ⟨rfl, X4.drewN _⟩
 have d1 : decide ((s.size : Int) ≤ 100) = true := by simp; omega
 have hri : decide (regL s.toList = s.size) = (((regL s.toList : Nat) : Int) == (s.size : Int)) := by
  rw [Bool.eq_iff_iff]; simp; omega
 rw [hri, decide_eq_true c0, decide_eq_true c1] at hv; generalize ((regL s.toList : Nat) : Int) = rg at *; rw [Bool.true_and, Bool.true_and] at hv
 cases v with
 | true =>
  clear hri c0 c1; have hb := blk_new w (tokBox 4 n s p); have X := (Chg.refl NoB w).alloc (tokBox 4 n s p); go_enter Tryz.func44, Tryz.ntmps44
  go_upto_region 1 with (fail)
  generalize w.alloc _ = w1 at *; generalize w.heap.size = b at *; have R := cells_of hb; have l1 := blk_lt hb
  go_quiet (fail)
  have hb2 : (w1.drewN nq).heap[b]? = some (tokBox 4 n s p) := hb; have X2 := X.drewN nq; generalize w1.drewN nq = w2 at *; clear hb X R l1; have R := cells_of hb2; have l1 := blk_lt hb2; go_wp2_with fail
  refine (HD.out _).mono ?_; rintro e w3 ⟨rfl, X3⟩; have hb3 := X3.blk hb2 id; have X4 := X2.trans X3; clear hb2 X2 X3 R l1; have R := cells_of hb3; have l1 := blk_lt hb3
  go_upto_region 11 with (fail)
  go_quiet ((go_at_call 81; exact quiet_lf (HR.out _)))
  go_wp2_with fail
  go_ret; exact ⟨rfl, X4.drewN _⟩
 | false =>
  clear hri c0 c1; have hb := blk_new w (tokBox 4 n s p); have X := (Chg.refl NoB w).alloc (tokBox 4 n s p); go_enter Tryz.func44, Tryz.ntmps44
  go_upto_region 1 with (fail)
  generalize w.alloc _ = w1 at *; generalize w.heap.size = b at *; have R := cells_of hb; have l1 := blk_lt hb
  go_quiet (fail)
  have hb2 : (w1.drewN nq).heap[b]? = some (tokBox 4 n s p) := hb; have X2 := X.drewN nq; generalize w1.drewN nq = w2 at *; clear hb X R l1; have R := cells_of hb2; have l1 := blk_lt hb2; go_wp2_with fail
  refine (HD.out _).mono ?_; rintro e w3 ⟨rfl, X3⟩; have hb3 := X3.blk hb2 id; have X4 := X2.trans X3; clear hb2 X2 X3 R l1; have R := cells_of hb3; have l1 := blk_lt hb3
  go_upto_region 11 with (fail)
  go_quiet ((go_at_call 81; exact quiet_lf (HR.out _)))
  go_wp2_with fail
  go_ret; exact ⟨rfl, X4.drewN _⟩
set_option maxRecDepth 100000 in
set_option maxHeartbeats 1000000 in
theorem rmay_5 (n p : Int) (s : ByteArray) (hs : s.size ≤ 9223372036854775807) (v : Bool) (hv : (decide (n = 0) && decide (s.size ≤ 100) && decide (regL s.toList = s.size)) = v) (w : World) :
 Calls Tryz.prog 44 #[Tok.val ⟨5, n, s, p⟩] w fun r w' => r = .returned (.bool v) ∧ Chg NoB w w' := by
 have HD := hid' (fun w => rread6_any s hs w); have HR := hid' (fun w => rregular_any s 0 hs (by omega) w); rw [List.drop_zero] at HR; generalize readF s.toList = RD at *; obtain ⟨rk, rv, re⟩ := RD
 by_cases c0 : n = 0
 rotate_left
 · have e0 : (n == 0) = false := by simpa using c0
   have e1 : v = false := by rw [← hv]; simp [c0]
   subst e1; clear hv c0; have hb := blk_new w (tokBox 5 n s p); have X := (Chg.refl NoB w).alloc (tokBox 5 n s p); go_enter Tryz.func44, Tryz.ntmps44
   go_upto_region 1 with (fail)
   generalize w.alloc _ = w1 at *; generalize w.heap.size = b at *; have R := cells_of hb; have l1 := blk_lt hb
   go_quiet (fail)
   have hb2 : (w1.drewN nq).heap[b]? = some (tokBox 5 n s p) := hb; have X2 := X.drewN nq; generalize w1.drewN nq = w2 at *; clear hb X R l1; have R := cells_of hb2; have l1 := blk_lt hb2; go_wp2_with fail
   refine (HD.out _).mono ?_; rintro e w3 ⟨rfl, X3⟩; have hb3 := X3.blk hb2 id; have X4 := X2.trans X3; clear hb2 X2 X3 R l1; have R := cells_of hb3; have l1 := blk_lt hb3
   go_upto_region 11 with (fail)
   go_quiet (fail)
   go_wp2_with fail
   go_ret; exact ⟨rfl, X4.drewN _⟩
 have e0 : (n == 0) = true := by simpa using c0
 by_cases c1 : s.size ≤ 100
 rotate_left
 · have d1 : decide ((s.size : Int) ≤ 100) = false := by simp; omega
   have e1 : v = false := by rw [← hv]; simp [c1]
   subst e1; clear hv c0; have hb := blk_new w (tokBox 5 n s p); have X := (Chg.refl NoB w).alloc (tokBox 5 n s p); go_enter Tryz.func44, Tryz.ntmps44
   go_upto_region 1 with (fail)
   generalize w.alloc _ = w1 at *; generalize w.heap.size = b at *; have R := cells_of hb; have l1 := blk_lt hb
   go_quiet (fail)
   have hb2 : (w1.drewN nq).heap[b]? = some (tokBox 5 n s p) := hb; have X2 := X.drewN nq; generalize w1.drewN nq = w2 at *; clear hb X R l1; have R := cells_of hb2; have l1 := blk_lt hb2; go_wp2_with fail
   refine (HD.out _).mono ?_; rintro e w3 ⟨rfl, X3⟩; have hb3 := X3.blk hb2 id; have X4 := X2.trans X3; clear hb2 X2 X3 R l1; have R := cells_of hb3; have l1 := blk_lt hb3
   go_upto_region 11 with (fail)
   go_quiet (fail)
   go_wp2_with fail
   go_ret; exact ⟨rfl, X4.drewN _⟩
 have d1 : decide ((s.size : Int) ≤ 100) = true := by simp; omega
 have hri : decide (regL s.toList = s.size) = (((regL s.toList : Nat) : Int) == (s.size : Int)) := by
  rw [Bool.eq_iff_iff]; simp; omega
 rw [hri, decide_eq_true c0, decide_eq_true c1] at hv; generalize ((regL s.toList : Nat) : Int) = rg at *; rw [Bool.true_and, Bool.true_and] at hv
 cases v with
 | true =>
  clear hri c0 c1; have hb := blk_new w (tokBox 5 n s p); have X := (Chg.refl NoB w).alloc (tokBox 5 n s p); go_enter Tryz.func44, Tryz.ntmps44
  go_upto_region 1 with (fail)
  generalize w.alloc _ = w1 at *; generalize w.heap.size = b at *; have R := cells_of hb; have l1 := blk_lt hb
  go_quiet (fail)
  have hb2 : (w1.drewN nq).heap[b]? = some (tokBox 5 n s p) := hb; have X2 := X.drewN nq; generalize w1.drewN nq = w2 at *; clear hb X R l1; have R := cells_of hb2; have l1 := blk_lt hb2; go_wp2_with fail
  refine (HD.out _).mono ?_; rintro e w3 ⟨rfl, X3⟩; have hb3 := X3.blk hb2 id; have X4 := X2.trans X3; clear hb2 X2 X3 R l1; have R := cells_of hb3; have l1 := blk_lt hb3
  go_upto_region 11 with (fail)
  go_quiet ((go_at_call 81; exact quiet_lf (HR.out _)))
  go_wp2_with fail
  go_ret; exact ⟨rfl, X4.drewN _⟩
 | false =>
  clear hri c0 c1; have hb := blk_new w (tokBox 5 n s p); have X := (Chg.refl NoB w).alloc (tokBox 5 n s p); go_enter Tryz.func44, Tryz.ntmps44
  go_upto_region 1 with (fail)
  generalize w.alloc _ = w1 at *; generalize w.heap.size = b at *; have R := cells_of hb; have l1 := blk_lt hb
  go_quiet (fail)
  have hb2 : (w1.drewN nq).heap[b]? = some (tokBox 5 n s p) := hb; have X2 := X.drewN nq; generalize w1.drewN nq = w2 at *; clear hb X R l1; have R := cells_of hb2; have l1 := blk_lt hb2; go_wp2_with fail
  refine (HD.out _).mono ?_; rintro e w3 ⟨rfl, X3⟩; have hb3 := X3.blk hb2 id; have X4 := X2.trans X3; clear hb2 X2 X3 R l1; have R := cells_of hb3; have l1 := blk_lt hb3
  go_upto_region 11 with (fail)
  go_quiet ((go_at_call 81; exact quiet_lf (HR.out _)))
  go_wp2_with fail
  go_ret; exact ⟨rfl, X4.drewN _⟩
set_option maxRecDepth 100000 in
set_option maxHeartbeats 1000000 in
theorem rmay_6 (n p : Int) (s : ByteArray) (hs : s.size ≤ 9223372036854775807) (w : World) :
 Calls Tryz.prog 44 #[Tok.val ⟨6, n, s, p⟩] w fun r w' => r = .returned (.bool (decide (n = 0) && decide (s.size ≤ 4000))) ∧ Chg NoB w w' := by
 by_cases c0 : n = 0
 · have e0 : (n == 0) = true := by simpa using c0
   have hd : decide (s.size ≤ 4000) = decide ((s.size : Int) ≤ 4000) := by rw [Bool.eq_iff_iff]; simp; omega
   rw [decide_eq_true c0, Bool.true_and, hd]; have C0 := hid' c0; clear c0 hd; have hb := blk_new w (tokBox 6 n s p); have X := (Chg.refl NoB w).alloc (tokBox 6 n s p); go_enter Tryz.func44, Tryz.ntmps44
   go_upto_region 1 with (fail)
   generalize w.alloc _ = w1 at *; generalize w.heap.size = b at *; have R := cells_of hb; have l1 := blk_lt hb
   go_quiet (fail)
   have hb2 : (w1.drewN nq).heap[b]? = some (tokBox 6 n s p) := hb; have X2 := X.drewN nq; generalize w1.drewN nq = w2 at *; clear hb X R l1; have R := cells_of hb2; have l1 := blk_lt hb2; go_wp2_with fail
   go_ret; exact ⟨rfl, X2⟩
 · have e0 : (n == 0) = false := by simpa using c0
   rw [decide_eq_false c0, Bool.false_and]; clear c0; have hb := blk_new w (tokBox 6 n s p); have X := (Chg.refl NoB w).alloc (tokBox 6 n s p); go_enter Tryz.func44, Tryz.ntmps44
   go_upto_region 1 with (fail)
   generalize w.alloc _ = w1 at *; generalize w.heap.size = b at *; have R := cells_of hb; have l1 := blk_lt hb
   go_quiet (fail)
   have hb2 : (w1.drewN nq).heap[b]? = some (tokBox 6 n s p) := hb; have X2 := X.drewN nq; generalize w1.drewN nq = w2 at *; clear hb X R l1; have R := cells_of hb2; have l1 := blk_lt hb2; go_wp2_with fail
   go_ret; exact ⟨rfl, X2⟩
set_option maxRecDepth 100000 in
set_option maxHeartbeats 1000000 in
theorem rmay_s (k n p : Int) (s : ByteArray) (hk : ∀ j : Int, 1 ≤ j → j ≤ 6 → ¬ k = j) (w : World) :
 Calls Tryz.prog 44 #[Tok.val ⟨k, n, s, p⟩] w fun r w' => r = .returned (.bool (decide (n = 0) && decide (s.size = 0) && decide (7 ≤ k) && decide (k ≤ 12))) ∧ Chg NoB w w' := by
 have k1 : (k == 1) = false := by simpa using hk 1 (by decide) (by decide)
 have k2 : (k == 2) = false := by simpa using hk 2 (by decide) (by decide)
 have k3 : (k == 3) = false := by simpa using hk 3 (by decide) (by decide)
 have k4 : (k == 4) = false := by simpa using hk 4 (by decide) (by decide)
 have k5 : (k == 5) = false := by simpa using hk 5 (by decide) (by decide)
 have k6 : (k == 6) = false := by simpa using hk 6 (by decide) (by decide)
 clear hk
 by_cases c0 : n = 0
 · have e0 : (n == 0) = true := by simpa using c0
   by_cases z : s.size = 0
   · have e := empty_bool s z
     by_cases a1 : 7 ≤ k
     all_goals by_cases a2 : k ≤ 12
     all_goals first | (exfalso; omega) | skip
     all_goals
      have HV := hid' (show (decide (n = 0) && decide (s.size = 0) && decide (7 ≤ k) && decide (k ≤ 12)) = (decide (7 ≤ k) && decide (k ≤ 12)) by rw [decide_eq_true c0, decide_eq_true z]; rfl); rw [HV.out]; clear c0 z HV; have hb := blk_new w (tokBox k n s p); have X := (Chg.refl NoB w).alloc (tokBox k n s p); go_enter Tryz.func44, Tryz.ntmps44
      go_upto_region 1 with (fail)
      generalize w.alloc _ = w1 at *; generalize w.heap.size = b at *; have R := cells_of hb; have l1 := blk_lt hb
      go_quiet (fail)
      have hb2 : (w1.drewN nq).heap[b]? = some (tokBox k n s p) := hb; have X2 := X.drewN nq; generalize w1.drewN nq = w2 at *; clear hb X R l1; have R := cells_of hb2; have l1 := blk_lt hb2; go_wp2_with fail
      go_ret; exact ⟨by simp [a1, a2], X2⟩
   · have e := empty_no s z; rw [decide_eq_false z, Bool.and_false, Bool.false_and, Bool.false_and]; have C0 := hid' c0; clear c0 z; have hb := blk_new w (tokBox k n s p); have X := (Chg.refl NoB w).alloc (tokBox k n s p); go_enter Tryz.func44, Tryz.ntmps44
     go_upto_region 1 with (fail)
     generalize w.alloc _ = w1 at *; generalize w.heap.size = b at *; have R := cells_of hb; have l1 := blk_lt hb
     go_quiet (fail)
     have hb2 : (w1.drewN nq).heap[b]? = some (tokBox k n s p) := hb; have X2 := X.drewN nq; generalize w1.drewN nq = w2 at *; clear hb X R l1; have R := cells_of hb2; have l1 := blk_lt hb2; go_wp2_with fail
     go_ret; exact ⟨rfl, X2⟩
 · have e0 : (n == 0) = false := by simpa using c0
   rw [decide_eq_false c0, Bool.false_and, Bool.false_and, Bool.false_and]; clear c0; have hb := blk_new w (tokBox k n s p); have X := (Chg.refl NoB w).alloc (tokBox k n s p); go_enter Tryz.func44, Tryz.ntmps44
   go_upto_region 1 with (fail)
   generalize w.alloc _ = w1 at *; generalize w.heap.size = b at *; have R := cells_of hb; have l1 := blk_lt hb
   go_quiet (fail)
   have hb2 : (w1.drewN nq).heap[b]? = some (tokBox k n s p) := hb; have X2 := X.drewN nq; generalize w1.drewN nq = w2 at *; clear hb X R l1; have R := cells_of hb2; have l1 := blk_lt hb2; go_wp2_with fail
   go_ret; exact ⟨rfl, X2⟩
theorem sign_rng (k : Int) : decide (signL k ≠ []) = (decide (7 ≤ k) && decide (k ≤ 12)) := by
 by_cases c : 7 ≤ k ∧ k ≤ 12
 · have : k = 7 ∨ k = 8 ∨ k = 9 ∨ k = 10 ∨ k = 11 ∨ k = 12 := by omega
   rcases this with rfl | rfl | rfl | rfl | rfl | rfl <;> decide
 · have e : signL k = [] := by
    unfold signL; rw [if_neg (by omega), if_neg (by omega), if_neg (by omega), if_neg (by omega), if_neg (by omega), if_neg (by omega)]
   rw [e]
   by_cases a : 7 ≤ k
   · rw [decide_eq_true a, decide_eq_false (show ¬ k ≤ 12 by omega)]; rfl
   · rw [decide_eq_false a]; rfl
theorem rmayT_any (t : Tok) (hs : t.s.size ≤ 9223372036854775807) (w : World) :
 Calls Tryz.prog 44 #[t.val] w fun r w' => r = .returned (.bool (mayT t)) ∧ Chg NoB w w' := by
 obtain ⟨k, n, s, p⟩ := t; simp only at hs; unfold mayT; simp only
 by_cases h1 : k = 1
 · subst h1; rw [if_pos rfl]; exact rmay_1 n p s w
 rw [if_neg h1]
 by_cases h2 : k = 2
 · subst h2; rw [if_pos rfl]; exact rmay_2 n p s w
 rw [if_neg h2]
 by_cases h3 : k = 3
 · subst h3; refine rmay_3 n p s hs _ ?_ w
   by_cases hn : n = 0
   · simp [hn]
   · simp [hn]
 by_cases h4 : k = 4
 · subst h4; refine rmay_4 n p s hs _ ?_ w
   by_cases hn : n = 0
   · simp [hn]
   · simp [hn]
 by_cases h5 : k = 5
 · subst h5; refine rmay_5 n p s hs _ ?_ w
   by_cases hn : n = 0
   · simp [hn]
   · simp [hn]
 have hd : (if n ≠ 0 then false else if k = 3 then decide ((readF s.toList).2.2 = 3) && decide (s.size ≠ 0) && decide (s.size ≤ 100) && decide (regL s.toList = s.size) else if k = 4 ∨ k = 5 then decide (s.size ≤ 100) && decide (regL s.toList = s.size) else if k = 6 then decide (s.size ≤ 4000) else decide (signL k ≠ []) && decide (s.size = 0)) =
  (if n ≠ 0 then false else if k = 6 then decide (s.size ≤ 4000) else decide (signL k ≠ []) && decide (s.size = 0)) := by
  rw [if_neg h3, if_neg (show ¬ (k = 4 ∨ k = 5) from fun h => h.elim h4 h5)]
 rw [hd]
 by_cases h6 : k = 6
 · subst h6; have := rmay_6 n p s hs w; rw [if_pos (rfl : (6 : Int) = 6)]
   have e : (if n ≠ 0 then false else decide (s.size ≤ 4000)) = (decide (n = 0) && decide (s.size ≤ 4000)) := by by_cases hn : n = 0 <;> simp [hn]
   rw [e]; exact this
 have hd2 : (if n ≠ 0 then false else if k = 6 then decide (s.size ≤ 4000) else decide (signL k ≠ []) && decide (s.size = 0)) = (if n ≠ 0 then false else decide (signL k ≠ []) && decide (s.size = 0)) := by rw [if_neg h6]
 rw [hd2]; have := rmay_s k n p s (fun j a b => by omega) w
 have e : (if n ≠ 0 then false else decide (signL k ≠ []) && decide (s.size = 0)) = (decide (n = 0) && decide (s.size = 0) && decide (7 ≤ k) && decide (k ≤ 12)) := by
  rw [sign_rng]
  by_cases hn : n = 0
  · rw [if_neg (by simpa using hn), decide_eq_true hn, Bool.true_and, Bool.and_comm, Bool.and_assoc]
  · rw [if_pos hn, decide_eq_false hn]; rfl
 rw [e]; exact this
end Go.Proofs.YtoogmimbmgdflaaGreat
