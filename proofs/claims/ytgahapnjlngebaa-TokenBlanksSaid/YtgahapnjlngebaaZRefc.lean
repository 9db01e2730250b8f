/- Ra8, Rt8, Rp8 -/
import Derived.Test.YtgahapnjlngebaaZRefb
import Derived.Test.YtgahapnjlngebaaZTokf
import Derived.Test.YtgahapnjlngebaaZTxw
/- Walk: layer 8's reference: May. -/
namespace Go.Proofs.Ytgahapnjlngebaa
open Go.RowKit

theorem empty_bool (s : ByteArray) (z : s.size = 0) : s.toList.isEmpty = true := by rw [isEmpty_size]; simpa using z
theorem empty_no (s : ByteArray) (z : ¬ s.size = 0) : s.toList.isEmpty = false := by rw [isEmpty_size]; simpa using z
set_option maxRecDepth 100000 in
set_option maxHeartbeats 1000000 in
theorem rmay_1 (n p : Int) (s : ByteArray) (w : World) :
    Calls Try.prog 17 #[Tok.val ⟨1, n, s, p⟩] w fun r w' => r = .returned (.bool (decide (s.size = 0) && decide (-2147483647 ≤ n) && decide (n ≤ 2147483647))) ∧ Chg NoB w w' := by
  by_cases z : s.size = 0
  · have e := empty_bool s z
    by_cases a1 : -2147483647 ≤ n
    all_goals by_cases a2 : n ≤ 2147483647
    all_goals first | (exfalso; omega) | skip
    all_goals
      have HV := hid' (show (decide (s.size = 0) && decide (-2147483647 ≤ n) && decide (n ≤ 2147483647)) = _ from by rw [decide_eq_true z, Bool.true_and])
      rw [HV.out]
      clear z HV
      have hb := blk_new w (tokBox 1 n s p)
      have X := (Chg.refl NoB w).alloc (tokBox 1 n s p)
      go_enter Try.func17, Try.ntmps17
      go_upto_region 1 with (fail)
      generalize w.alloc _ = w1 at *
      generalize w.heap.size = b at *
      have R := cells_of hb
      have l1 := blk_lt hb
      go_quiet (fail)
      have hb2 : (w1.drewN nq).heap[b]? = some (tokBox 1 n s p) := hb
      have X2 := X.drewN nq
      generalize w1.drewN nq = w2 at *
      clear hb X R l1
      have R := cells_of hb2
      have l1 := blk_lt hb2
      go_wp2_with fail
      go_ret
      exact ⟨by simp [a1, a2], X2⟩
  · have e := empty_no s z
    rw [decide_eq_false z, Bool.false_and, Bool.false_and]
    clear z
    have hb := blk_new w (tokBox 1 n s p)
    have X := (Chg.refl NoB w).alloc (tokBox 1 n s p)
    go_enter Try.func17, Try.ntmps17
    go_upto_region 1 with (fail)
    generalize w.alloc _ = w1 at *
    generalize w.heap.size = b at *
    have R := cells_of hb
    have l1 := blk_lt hb
    go_quiet (fail)
    have hb2 : (w1.drewN nq).heap[b]? = some (tokBox 1 n s p) := hb
    have X2 := X.drewN nq
    generalize w1.drewN nq = w2 at *
    clear hb X R l1
    have R := cells_of hb2
    have l1 := blk_lt hb2
    go_wp2_with fail
    go_ret
    exact ⟨rfl, X2⟩
set_option maxRecDepth 100000 in
set_option maxHeartbeats 1000000 in
theorem rmay_2 (n p : Int) (s : ByteArray) (w : World) :
    Calls Try.prog 17 #[Tok.val ⟨2, n, s, p⟩] w fun r w' => r = .returned (.bool (decide (s.size = 0) && decide (-1073741823 ≤ n) && decide (n ≤ 1073741823))) ∧ Chg NoB w w' := by
  have HM := hid' (fun w => may3_any n w)
  by_cases z : s.size = 0
  · have e := empty_bool s z
    rw [decide_eq_true z, Bool.true_and]
    generalize (decide (-1073741823 ≤ n) && decide (n ≤ 1073741823)) = v at *
    have hb := blk_new w (tokBox 2 n s p)
    have X := (Chg.refl NoB w).alloc (tokBox 2 n s p)
    go_enter Try.func17, Try.ntmps17
    go_upto_region 1 with (fail)
    generalize w.alloc _ = w1 at *
    generalize w.heap.size = b at *
    have R := cells_of hb
    have l1 := blk_lt hb
    go_quiet (fail)
    have hb2 : (w1.drewN nq).heap[b]? = some (tokBox 2 n s p) := hb
    have X2 := X.drewN nq
    generalize w1.drewN nq = w2 at *
    clear hb X R l1
    have R := cells_of hb2
    have l1 := blk_lt hb2
    go_wp2_with fail
    refine (HM.out _).mono ?_
    rintro e w3 ⟨rfl, rfl⟩
    go_wp2_with fail
    go_ret
    exact ⟨rfl, X2⟩
  · have e := empty_no s z
    rw [decide_eq_false z, Bool.false_and, Bool.false_and]
    clear z
    have hb := blk_new w (tokBox 2 n s p)
    have X := (Chg.refl NoB w).alloc (tokBox 2 n s p)
    go_enter Try.func17, Try.ntmps17
    go_upto_region 1 with (fail)
    generalize w.alloc _ = w1 at *
    generalize w.heap.size = b at *
    have R := cells_of hb
    have l1 := blk_lt hb
    go_quiet (fail)
    have hb2 : (w1.drewN nq).heap[b]? = some (tokBox 2 n s p) := hb
    have X2 := X.drewN nq
    generalize w1.drewN nq = w2 at *
    clear hb X R l1
    have R := cells_of hb2
    have l1 := blk_lt hb2
    go_wp2_with fail
    go_ret
    exact ⟨rfl, X2⟩
set_option maxRecDepth 100000 in
set_option maxHeartbeats 1000000 in
theorem rmay_3 (n p : Int) (s : ByteArray) (hs : s.size ≤ 9223372036854775807) (v : Bool) (hv : (decide (n = 0) && decide ((readF s.toList).2.2 = 3) && decide (s.size ≠ 0) && decide (s.size ≤ 100) && decide (regL s.toList = s.size)) = v) (w : World) :
    Calls Try.prog 17 #[Tok.val ⟨3, n, s, p⟩] w fun r w' => r = .returned (.bool v) ∧ Chg NoB w w' := by
  have HD := hid' (fun w => rread6_any s hs w)
  have HR := hid' (fun w => rregular_any s 0 hs (by omega) w)
  rw [List.drop_zero] at HR
  generalize readF s.toList = RD at *
  obtain ⟨rk, rv, re⟩ := RD
  simp only at hv
  by_cases c0 : n = 0
  rotate_left
  · have e0 : (n == 0) = false := by simpa using c0
    have e1 : v = false := by rw [← hv]; simp [c0]
    subst e1
    clear hv c0
    have hb := blk_new w (tokBox 3 n s p)
    have X := (Chg.refl NoB w).alloc (tokBox 3 n s p)
    go_enter Try.func17, Try.ntmps17
    go_upto_region 1 with (fail)
    generalize w.alloc _ = w1 at *
    generalize w.heap.size = b at *
    have R := cells_of hb
    have l1 := blk_lt hb
    go_quiet (fail)
    have hb2 : (w1.drewN nq).heap[b]? = some (tokBox 3 n s p) := hb
    have X2 := X.drewN nq
    generalize w1.drewN nq = w2 at *
    clear hb X R l1
    have R := cells_of hb2
    have l1 := blk_lt hb2
    go_wp2_with fail
    refine (HD.out _).mono ?_
    rintro e w3 ⟨rfl, X3⟩
    have hb3 := X3.blk hb2 id
    have X4 := X2.trans X3
    clear hb2 X2 X3 R l1
    have R := cells_of hb3
    have l1 := blk_lt hb3
    go_upto_region 11 with (fail)
    go_quiet (fail)
    go_wp2_with fail
    go_ret
    exact ⟨rfl, X4.drewN _⟩
  have e0 : (n == 0) = true := by simpa using c0
  by_cases c1 : s.size ≤ 100
  rotate_left
  · have d1 : decide ((s.size : Int) ≤ 100) = false := by simp; omega
    have e1 : v = false := by rw [← hv]; simp [c1]
    subst e1
    clear hv c0
    have hb := blk_new w (tokBox 3 n s p)
    have X := (Chg.refl NoB w).alloc (tokBox 3 n s p)
    go_enter Try.func17, Try.ntmps17
    go_upto_region 1 with (fail)
    generalize w.alloc _ = w1 at *
    generalize w.heap.size = b at *
    have R := cells_of hb
    have l1 := blk_lt hb
    go_quiet (fail)
    have hb2 : (w1.drewN nq).heap[b]? = some (tokBox 3 n s p) := hb
    have X2 := X.drewN nq
    generalize w1.drewN nq = w2 at *
    clear hb X R l1
    have R := cells_of hb2
    have l1 := blk_lt hb2
    go_wp2_with fail
    refine (HD.out _).mono ?_
    rintro e w3 ⟨rfl, X3⟩
    have hb3 := X3.blk hb2 id
    have X4 := X2.trans X3
    clear hb2 X2 X3 R l1
    have R := cells_of hb3
    have l1 := blk_lt hb3
    go_upto_region 11 with (fail)
    go_quiet (fail)
    go_wp2_with fail
    go_ret
    exact ⟨rfl, X4.drewN _⟩
  have d1 : decide ((s.size : Int) ≤ 100) = true := by simp; omega
  have hri : decide (regL s.toList = s.size) = (((regL s.toList : Nat) : Int) == (s.size : Int)) := by
    rw [Bool.eq_iff_iff]; simp; omega
  rw [hri, decide_eq_true c0, decide_eq_true c1] at hv
  generalize ((regL s.toList : Nat) : Int) = rg at *
  obtain ⟨g, hg⟩ : ∃ g, (rg == (s.size : Int)) = g := ⟨_, rfl⟩
  rw [hg] at hv
  cases g with
  | false =>
    have e1 : v = false := by rw [← hv]; simp
    subst e1
    clear hri c0 c1 hv
    have hb := blk_new w (tokBox 3 n s p)
    have X := (Chg.refl NoB w).alloc (tokBox 3 n s p)
    go_enter Try.func17, Try.ntmps17
    go_upto_region 1 with (fail)
    generalize w.alloc _ = w1 at *
    generalize w.heap.size = b at *
    have R := cells_of hb
    have l1 := blk_lt hb
    go_quiet (fail)
    have hb2 : (w1.drewN nq).heap[b]? = some (tokBox 3 n s p) := hb
    have X2 := X.drewN nq
    generalize w1.drewN nq = w2 at *
    clear hb X R l1
    have R := cells_of hb2
    have l1 := blk_lt hb2
    go_wp2_with fail
    refine (HD.out _).mono ?_
    rintro e w3 ⟨rfl, X3⟩
    have hb3 := X3.blk hb2 id
    have X4 := X2.trans X3
    clear hb2 X2 X3 R l1
    have R := cells_of hb3
    have l1 := blk_lt hb3
    go_upto_region 11 with (fail)
    go_quiet ((go_at_call 29; exact quiet_lf (HR.out _)))
    go_wp2_with fail
    go_ret
    exact ⟨rfl, X4.drewN _⟩
  | true =>
    by_cases z : s.size = 0
    · have e := empty_bool s z
      have e1 : v = false := by rw [← hv]; simp [z]
      subst e1
      clear hri c0 c1 hv z
      have hb := blk_new w (tokBox 3 n s p)
      have X := (Chg.refl NoB w).alloc (tokBox 3 n s p)
      go_enter Try.func17, Try.ntmps17
      go_upto_region 1 with (fail)
      generalize w.alloc _ = w1 at *
      generalize w.heap.size = b at *
      have R := cells_of hb
      have l1 := blk_lt hb
      go_quiet (fail)
      have hb2 : (w1.drewN nq).heap[b]? = some (tokBox 3 n s p) := hb
      have X2 := X.drewN nq
      generalize w1.drewN nq = w2 at *
      clear hb X R l1
      have R := cells_of hb2
      have l1 := blk_lt hb2
      go_wp2_with fail
      refine (HD.out _).mono ?_
      rintro e w3 ⟨rfl, X3⟩
      have hb3 := X3.blk hb2 id
      have X4 := X2.trans X3
      clear hb2 X2 X3 R l1
      have R := cells_of hb3
      have l1 := blk_lt hb3
      go_upto_region 11 with (fail)
      go_quiet ((go_at_call 29; exact quiet_lf (HR.out _)))
      go_wp2_with fail
      go_ret
      exact ⟨rfl, X4.drewN _⟩
    · have e := empty_no s z
      have e2 : (re == 3) = v := by rw [← hv]; simp [z]; rw [Bool.eq_iff_iff]; simp
      clear hri c0 c1 hv z
      cases v with
      | true =>
        have hb := blk_new w (tokBox 3 n s p)
        have X := (Chg.refl NoB w).alloc (tokBox 3 n s p)
        go_enter Try.func17, Try.ntmps17
        go_upto_region 1 with (fail)
        generalize w.alloc _ = w1 at *
        generalize w.heap.size = b at *
        have R := cells_of hb
        have l1 := blk_lt hb
        go_quiet (fail)
        have hb2 : (w1.drewN nq).heap[b]? = some (tokBox 3 n s p) := hb
        have X2 := X.drewN nq
        generalize w1.drewN nq = w2 at *
        clear hb X R l1
        have R := cells_of hb2
        have l1 := blk_lt hb2
        go_wp2_with fail
        refine (HD.out _).mono ?_
        rintro e w3 ⟨rfl, X3⟩
        have hb3 := X3.blk hb2 id
        have X4 := X2.trans X3
        clear hb2 X2 X3 R l1
        have R := cells_of hb3
        have l1 := blk_lt hb3
        go_upto_region 11 with (fail)
        go_quiet ((go_at_call 29; exact quiet_lf (HR.out _)))
        go_wp2_with fail
        go_ret
        exact ⟨rfl, X4.drewN _⟩
      | false =>
        have hb := blk_new w (tokBox 3 n s p)
        have X := (Chg.refl NoB w).alloc (tokBox 3 n s p)
        go_enter Try.func17, Try.ntmps17
        go_upto_region 1 with (fail)
        generalize w.alloc _ = w1 at *
        generalize w.heap.size = b at *
        have R := cells_of hb
        have l1 := blk_lt hb
        go_quiet (fail)
        have hb2 : (w1.drewN nq).heap[b]? = some (tokBox 3 n s p) := hb
        have X2 := X.drewN nq
        generalize w1.drewN nq = w2 at *
        clear hb X R l1
        have R := cells_of hb2
        have l1 := blk_lt hb2
        go_wp2_with fail
        refine (HD.out _).mono ?_
        rintro e w3 ⟨rfl, X3⟩
        have hb3 := X3.blk hb2 id
        have X4 := X2.trans X3
        clear hb2 X2 X3 R l1
        have R := cells_of hb3
        have l1 := blk_lt hb3
        go_upto_region 11 with (fail)
        go_quiet ((go_at_call 29; exact quiet_lf (HR.out _)))
        go_wp2_with fail
        go_ret
        exact ⟨rfl, X4.drewN _⟩
set_option maxRecDepth 100000 in
set_option maxHeartbeats 1000000 in
theorem rmay_4 (n p : Int) (s : ByteArray) (hs : s.size ≤ 9223372036854775807) (v : Bool) (hv : (decide (n = 0) && decide (s.size ≤ 100) && decide (regL s.toList = s.size)) = v) (w : World) :
    Calls Try.prog 17 #[Tok.val ⟨4, n, s, p⟩] w fun r w' => r = .returned (.bool v) ∧ Chg NoB w w' := by
  have HD := hid' (fun w => rread6_any s hs w)
  have HR := hid' (fun w => rregular_any s 0 hs (by omega) w)
  rw [List.drop_zero] at HR
  generalize readF s.toList = RD at *
  obtain ⟨rk, rv, re⟩ := RD
  by_cases c0 : n = 0
  rotate_left
  · have e0 : (n == 0) = false := by simpa using c0
    have e1 : v = false := by rw [← hv]; simp [c0]
    subst e1
    clear hv c0
    have hb := blk_new w (tokBox 4 n s p)
    have X := (Chg.refl NoB w).alloc (tokBox 4 n s p)
    go_enter Try.func17, Try.ntmps17
    go_upto_region 1 with (fail)
    generalize w.alloc _ = w1 at *
    generalize w.heap.size = b at *
    have R := cells_of hb
    have l1 := blk_lt hb
    go_quiet (fail)
    have hb2 : (w1.drewN nq).heap[b]? = some (tokBox 4 n s p) := hb
    have X2 := X.drewN nq
    generalize w1.drewN nq = w2 at *
    clear hb X R l1
    have R := cells_of hb2
    have l1 := blk_lt hb2
    go_wp2_with fail
    refine (HD.out _).mono ?_
    rintro e w3 ⟨rfl, X3⟩
    have hb3 := X3.blk hb2 id
    have X4 := X2.trans X3
    clear hb2 X2 X3 R l1
    have R := cells_of hb3
    have l1 := blk_lt hb3
    go_upto_region 11 with (fail)
    go_quiet (fail)
    go_wp2_with fail
    go_ret
    exact ⟨rfl, X4.drewN _⟩
  have e0 : (n == 0) = true := by simpa using c0
  by_cases c1 : s.size ≤ 100
  rotate_left
  · have d1 : decide ((s.size : Int) ≤ 100) = false := by simp; omega
    have e1 : v = false := by rw [← hv]; simp [c1]
    subst e1
    clear hv c0
    have hb := blk_new w (tokBox 4 n s p)
    have X := (Chg.refl NoB w).alloc (tokBox 4 n s p)
    go_enter Try.func17, Try.ntmps17
    go_upto_region 1 with (fail)
    generalize w.alloc _ = w1 at *
    generalize w.heap.size = b at *
    have R := cells_of hb
    have l1 := blk_lt hb
    go_quiet (fail)
    have hb2 : (w1.drewN nq).heap[b]? = some (tokBox 4 n s p) := hb
    have X2 := X.drewN nq
    generalize w1.drewN nq = w2 at *
    clear hb X R l1
    have R := cells_of hb2
    have l1 := blk_lt hb2
    go_wp2_with fail
    refine (HD.out _).mono ?_
    rintro e w3 ⟨rfl, X3⟩
    have hb3 := X3.blk hb2 id
    have X4 := X2.trans X3
    clear hb2 X2 X3 R l1
    have R := cells_of hb3
    have l1 := blk_lt hb3
    go_upto_region 11 with (fail)
    go_quiet (fail)
    go_wp2_with fail
    go_ret
    exact ⟨rfl, X4.drewN _⟩
  have d1 : decide ((s.size : Int) ≤ 100) = true := by simp; omega
  have hri : decide (regL s.toList = s.size) = (((regL s.toList : Nat) : Int) == (s.size : Int)) := by
    rw [Bool.eq_iff_iff]; simp; omega
  rw [hri, decide_eq_true c0, decide_eq_true c1] at hv
  generalize ((regL s.toList : Nat) : Int) = rg at *
  rw [Bool.true_and, Bool.true_and] at hv
  cases v with
  | true =>
    clear hri c0 c1
    have hb := blk_new w (tokBox 4 n s p)
    have X := (Chg.refl NoB w).alloc (tokBox 4 n s p)
    go_enter Try.func17, Try.ntmps17
    go_upto_region 1 with (fail)
    generalize w.alloc _ = w1 at *
    generalize w.heap.size = b at *
    have R := cells_of hb
    have l1 := blk_lt hb
    go_quiet (fail)
    have hb2 : (w1.drewN nq).heap[b]? = some (tokBox 4 n s p) := hb
    have X2 := X.drewN nq
    generalize w1.drewN nq = w2 at *
    clear hb X R l1
    have R := cells_of hb2
    have l1 := blk_lt hb2
    go_wp2_with fail
    refine (HD.out _).mono ?_
    rintro e w3 ⟨rfl, X3⟩
    have hb3 := X3.blk hb2 id
    have X4 := X2.trans X3
    clear hb2 X2 X3 R l1
    have R := cells_of hb3
    have l1 := blk_lt hb3
    go_upto_region 11 with (fail)
    go_quiet ((go_at_call 29; exact quiet_lf (HR.out _)))
    go_wp2_with fail
    go_ret
    exact ⟨rfl, X4.drewN _⟩
  | false =>
    clear hri c0 c1
    have hb := blk_new w (tokBox 4 n s p)
    have X := (Chg.refl NoB w).alloc (tokBox 4 n s p)
    go_enter Try.func17, Try.ntmps17
    go_upto_region 1 with (fail)
    generalize w.alloc _ = w1 at *
    generalize w.heap.size = b at *
    have R := cells_of hb
    have l1 := blk_lt hb
    go_quiet (fail)
    have hb2 : (w1.drewN nq).heap[b]? = some (tokBox 4 n s p) := hb
    have X2 := X.drewN nq
    generalize w1.drewN nq = w2 at *
    clear hb X R l1
    have R := cells_of hb2
    have l1 := blk_lt hb2
    go_wp2_with fail
    refine (HD.out _).mono ?_
    rintro e w3 ⟨rfl, X3⟩
    have hb3 := X3.blk hb2 id
    have X4 := X2.trans X3
    clear hb2 X2 X3 R l1
    have R := cells_of hb3
    have l1 := blk_lt hb3
    go_upto_region 11 with (fail)
    go_quiet ((go_at_call 29; exact quiet_lf (HR.out _)))
    go_wp2_with fail
    go_ret
    exact ⟨rfl, X4.drewN _⟩
set_option maxRecDepth 100000 in
set_option maxHeartbeats 1000000 in
theorem rmay_5 (n p : Int) (s : ByteArray) (hs : s.size ≤ 9223372036854775807) (v : Bool) (hv : (decide (n = 0) && decide (s.size ≤ 100) && decide (regL s.toList = s.size)) = v) (w : World) :
    Calls Try.prog 17 #[Tok.val ⟨5, n, s, p⟩] w fun r w' => r = .returned (.bool v) ∧ Chg NoB w w' := by
  have HD := hid' (fun w => rread6_any s hs w)
  have HR := hid' (fun w => rregular_any s 0 hs (by omega) w)
  rw [List.drop_zero] at HR
  generalize readF s.toList = RD at *
  obtain ⟨rk, rv, re⟩ := RD
  by_cases c0 : n = 0
  rotate_left
  · have e0 : (n == 0) = false := by simpa using c0
    have e1 : v = false := by rw [← hv]; simp [c0]
    subst e1
    clear hv c0
    have hb := blk_new w (tokBox 5 n s p)
    have X := (Chg.refl NoB w).alloc (tokBox 5 n s p)
    go_enter Try.func17, Try.ntmps17
    go_upto_region 1 with (fail)
    generalize w.alloc _ = w1 at *
    generalize w.heap.size = b at *
    have R := cells_of hb
    have l1 := blk_lt hb
    go_quiet (fail)
    have hb2 : (w1.drewN nq).heap[b]? = some (tokBox 5 n s p) := hb
    have X2 := X.drewN nq
    generalize w1.drewN nq = w2 at *
    clear hb X R l1
    have R := cells_of hb2
    have l1 := blk_lt hb2
    go_wp2_with fail
    refine (HD.out _).mono ?_
    rintro e w3 ⟨rfl, X3⟩
    have hb3 := X3.blk hb2 id
    have X4 := X2.trans X3
    clear hb2 X2 X3 R l1
    have R := cells_of hb3
    have l1 := blk_lt hb3
    go_upto_region 11 with (fail)
    go_quiet (fail)
    go_wp2_with fail
    go_ret
    exact ⟨rfl, X4.drewN _⟩
  have e0 : (n == 0) = true := by simpa using c0
  by_cases c1 : s.size ≤ 100
  rotate_left
  · have d1 : decide ((s.size : Int) ≤ 100) = false := by simp; omega
    have e1 : v = false := by rw [← hv]; simp [c1]
    subst e1
    clear hv c0
    have hb := blk_new w (tokBox 5 n s p)
    have X := (Chg.refl NoB w).alloc (tokBox 5 n s p)
    go_enter Try.func17, Try.ntmps17
    go_upto_region 1 with (fail)
    generalize w.alloc _ = w1 at *
    generalize w.heap.size = b at *
    have R := cells_of hb
    have l1 := blk_lt hb
    go_quiet (fail)
    have hb2 : (w1.drewN nq).heap[b]? = some (tokBox 5 n s p) := hb
    have X2 := X.drewN nq
    generalize w1.drewN nq = w2 at *
    clear hb X R l1
    have R := cells_of hb2
    have l1 := blk_lt hb2
    go_wp2_with fail
    refine (HD.out _).mono ?_
    rintro e w3 ⟨rfl, X3⟩
    have hb3 := X3.blk hb2 id
    have X4 := X2.trans X3
    clear hb2 X2 X3 R l1
    have R := cells_of hb3
    have l1 := blk_lt hb3
    go_upto_region 11 with (fail)
    go_quiet (fail)
    go_wp2_with fail
    go_ret
    exact ⟨rfl, X4.drewN _⟩
  have d1 : decide ((s.size : Int) ≤ 100) = true := by simp; omega
  have hri : decide (regL s.toList = s.size) = (((regL s.toList : Nat) : Int) == (s.size : Int)) := by
    rw [Bool.eq_iff_iff]; simp; omega
  rw [hri, decide_eq_true c0, decide_eq_true c1] at hv
  generalize ((regL s.toList : Nat) : Int) = rg at *
  rw [Bool.true_and, Bool.true_and] at hv
  cases v with
  | true =>
    clear hri c0 c1
    have hb := blk_new w (tokBox 5 n s p)
    have X := (Chg.refl NoB w).alloc (tokBox 5 n s p)
    go_enter Try.func17, Try.ntmps17
    go_upto_region 1 with (fail)
    generalize w.alloc _ = w1 at *
    generalize w.heap.size = b at *
    have R := cells_of hb
    have l1 := blk_lt hb
    go_quiet (fail)
    have hb2 : (w1.drewN nq).heap[b]? = some (tokBox 5 n s p) := hb
    have X2 := X.drewN nq
    generalize w1.drewN nq = w2 at *
    clear hb X R l1
    have R := cells_of hb2
    have l1 := blk_lt hb2
    go_wp2_with fail
    refine (HD.out _).mono ?_
    rintro e w3 ⟨rfl, X3⟩
    have hb3 := X3.blk hb2 id
    have X4 := X2.trans X3
    clear hb2 X2 X3 R l1
    have R := cells_of hb3
    have l1 := blk_lt hb3
    go_upto_region 11 with (fail)
    go_quiet ((go_at_call 29; exact quiet_lf (HR.out _)))
    go_wp2_with fail
    go_ret
    exact ⟨rfl, X4.drewN _⟩
  | false =>
    clear hri c0 c1
    have hb := blk_new w (tokBox 5 n s p)
    have X := (Chg.refl NoB w).alloc (tokBox 5 n s p)
    go_enter Try.func17, Try.ntmps17
    go_upto_region 1 with (fail)
    generalize w.alloc _ = w1 at *
    generalize w.heap.size = b at *
    have R := cells_of hb
    have l1 := blk_lt hb
    go_quiet (fail)
    have hb2 : (w1.drewN nq).heap[b]? = some (tokBox 5 n s p) := hb
    have X2 := X.drewN nq
    generalize w1.drewN nq = w2 at *
    clear hb X R l1
    have R := cells_of hb2
    have l1 := blk_lt hb2
    go_wp2_with fail
    refine (HD.out _).mono ?_
    rintro e w3 ⟨rfl, X3⟩
    have hb3 := X3.blk hb2 id
    have X4 := X2.trans X3
    clear hb2 X2 X3 R l1
    have R := cells_of hb3
    have l1 := blk_lt hb3
    go_upto_region 11 with (fail)
    go_quiet ((go_at_call 29; exact quiet_lf (HR.out _)))
    go_wp2_with fail
    go_ret
    exact ⟨rfl, X4.drewN _⟩
set_option maxRecDepth 100000 in
set_option maxHeartbeats 1000000 in
theorem rmay_6 (n p : Int) (s : ByteArray) (hs : s.size ≤ 9223372036854775807) (w : World) :
    Calls Try.prog 17 #[Tok.val ⟨6, n, s, p⟩] w fun r w' => r = .returned (.bool (decide (n = 0) && decide (s.size ≤ 4000))) ∧ Chg NoB w w' := by
  by_cases c0 : n = 0
  · have e0 : (n == 0) = true := by simpa using c0
    have hd : decide (s.size ≤ 4000) = decide ((s.size : Int) ≤ 4000) := by rw [Bool.eq_iff_iff]; simp; omega
    rw [decide_eq_true c0, Bool.true_and, hd]
    have C0 := hid' c0
    clear c0 hd
    have hb := blk_new w (tokBox 6 n s p)
    have X := (Chg.refl NoB w).alloc (tokBox 6 n s p)
    go_enter Try.func17, Try.ntmps17
    go_upto_region 1 with (fail)
    generalize w.alloc _ = w1 at *
    generalize w.heap.size = b at *
    have R := cells_of hb
    have l1 := blk_lt hb
    go_quiet (fail)
    have hb2 : (w1.drewN nq).heap[b]? = some (tokBox 6 n s p) := hb
    have X2 := X.drewN nq
    generalize w1.drewN nq = w2 at *
    clear hb X R l1
    have R := cells_of hb2
    have l1 := blk_lt hb2
    go_wp2_with fail
    go_ret
    exact ⟨rfl, X2⟩
  · have e0 : (n == 0) = false := by simpa using c0
    rw [decide_eq_false c0, Bool.false_and]
    clear c0
    have hb := blk_new w (tokBox 6 n s p)
    have X := (Chg.refl NoB w).alloc (tokBox 6 n s p)
    go_enter Try.func17, Try.ntmps17
    go_upto_region 1 with (fail)
    generalize w.alloc _ = w1 at *
    generalize w.heap.size = b at *
    have R := cells_of hb
    have l1 := blk_lt hb
    go_quiet (fail)
    have hb2 : (w1.drewN nq).heap[b]? = some (tokBox 6 n s p) := hb
    have X2 := X.drewN nq
    generalize w1.drewN nq = w2 at *
    clear hb X R l1
    have R := cells_of hb2
    have l1 := blk_lt hb2
    go_wp2_with fail
    go_ret
    exact ⟨rfl, X2⟩
set_option maxRecDepth 100000 in
set_option maxHeartbeats 1000000 in
theorem rmay_s (k n p : Int) (s : ByteArray) (hk : ∀ j : Int, 1 ≤ j → j ≤ 6 → ¬ k = j) (w : World) :
    Calls Try.prog 17 #[Tok.val ⟨k, n, s, p⟩] w fun r w' => r = .returned (.bool (decide (n = 0) && decide (s.size = 0) && decide (7 ≤ k) && decide (k ≤ 12))) ∧ Chg NoB w w' := by
  have k1 : (k == 1) = false := by simpa using hk 1 (by decide) (by decide)
  have k2 : (k == 2) = false := by simpa using hk 2 (by decide) (by decide)
  have k3 : (k == 3) = false := by simpa using hk 3 (by decide) (by decide)
  have k4 : (k == 4) = false := by simpa using hk 4 (by decide) (by decide)
  have k5 : (k == 5) = false := by simpa using hk 5 (by decide) (by decide)
  have k6 : (k == 6) = false := by simpa using hk 6 (by decide) (by decide)
  clear hk
  by_cases c0 : n = 0
  · have e0 : (n == 0) = true := by simpa using c0
    by_cases z : s.size = 0
    · have e := empty_bool s z
      by_cases a1 : 7 ≤ k
      all_goals by_cases a2 : k ≤ 12
      all_goals first | (exfalso; omega) | skip
      all_goals
        have HV := hid' (show (decide (n = 0) && decide (s.size = 0) && decide (7 ≤ k) && decide (k ≤ 12)) = (decide (7 ≤ k) && decide (k ≤ 12)) by rw [decide_eq_true c0, decide_eq_true z]; rfl)
        rw [HV.out]
        clear c0 z HV
        have hb := blk_new w (tokBox k n s p)
        have X := (Chg.refl NoB w).alloc (tokBox k n s p)
        go_enter Try.func17, Try.ntmps17
        go_upto_region 1 with (fail)
        generalize w.alloc _ = w1 at *
        generalize w.heap.size = b at *
        have R := cells_of hb
        have l1 := blk_lt hb
        go_quiet (fail)
        have hb2 : (w1.drewN nq).heap[b]? = some (tokBox k n s p) := hb
        have X2 := X.drewN nq
        generalize w1.drewN nq = w2 at *
        clear hb X R l1
        have R := cells_of hb2
        have l1 := blk_lt hb2
        go_wp2_with fail
        go_ret
        exact ⟨by simp [a1, a2], X2⟩
    · have e := empty_no s z
      rw [decide_eq_false z, Bool.and_false, Bool.false_and, Bool.false_and]
      have C0 := hid' c0
      clear c0 z
      have hb := blk_new w (tokBox k n s p)
      have X := (Chg.refl NoB w).alloc (tokBox k n s p)
      go_enter Try.func17, Try.ntmps17
      go_upto_region 1 with (fail)
      generalize w.alloc _ = w1 at *
      generalize w.heap.size = b at *
      have R := cells_of hb
      have l1 := blk_lt hb
      go_quiet (fail)
      have hb2 : (w1.drewN nq).heap[b]? = some (tokBox k n s p) := hb
      have X2 := X.drewN nq
      generalize w1.drewN nq = w2 at *
      clear hb X R l1
      have R := cells_of hb2
      have l1 := blk_lt hb2
      go_wp2_with fail
      go_ret
      exact ⟨rfl, X2⟩
  · have e0 : (n == 0) = false := by simpa using c0
    rw [decide_eq_false c0, Bool.false_and, Bool.false_and, Bool.false_and]
    clear c0
    have hb := blk_new w (tokBox k n s p)
    have X := (Chg.refl NoB w).alloc (tokBox k n s p)
    go_enter Try.func17, Try.ntmps17
    go_upto_region 1 with (fail)
    generalize w.alloc _ = w1 at *
    generalize w.heap.size = b at *
    have R := cells_of hb
    have l1 := blk_lt hb
    go_quiet (fail)
    have hb2 : (w1.drewN nq).heap[b]? = some (tokBox k n s p) := hb
    have X2 := X.drewN nq
    generalize w1.drewN nq = w2 at *
    clear hb X R l1
    have R := cells_of hb2
    have l1 := blk_lt hb2
    go_wp2_with fail
    go_ret
    exact ⟨rfl, X2⟩
theorem sign_rng (k : Int) : decide (signL k ≠ []) = (decide (7 ≤ k) && decide (k ≤ 12)) := by
  by_cases c : 7 ≤ k ∧ k ≤ 12
  · have : k = 7 ∨ k = 8 ∨ k = 9 ∨ k = 10 ∨ k = 11 ∨ k = 12 := by omega
    rcases this with rfl | rfl | rfl | rfl | rfl | rfl <;> decide
  · have e : signL k = [] := by
      unfold signL
      rw [if_neg (by omega), if_neg (by omega), if_neg (by omega), if_neg (by omega), if_neg (by omega), if_neg (by omega)]
    rw [e]
    by_cases a : 7 ≤ k
    · rw [decide_eq_true a, decide_eq_false (show ¬ k ≤ 12 by omega)]; rfl
    · rw [decide_eq_false a]; rfl
/-- The reference's May answers mayT. -/
theorem rmayT_any (t : Tok) (hs : t.s.size ≤ 9223372036854775807) (w : World) :
    Calls Try.prog 17 #[t.val] w fun r w' => r = .returned (.bool (mayT t)) ∧ Chg NoB w w' := by
  obtain ⟨k, n, s, p⟩ := t
  simp only at hs
  unfold mayT
  simp only
  by_cases h1 : k = 1
  · subst h1; rw [if_pos rfl]; exact rmay_1 n p s w
  rw [if_neg h1]
  by_cases h2 : k = 2
  · subst h2; rw [if_pos rfl]; exact rmay_2 n p s w
  rw [if_neg h2]
  by_cases h3 : k = 3
  · subst h3
    refine rmay_3 n p s hs _ ?_ w
    by_cases hn : n = 0
    · simp [hn]
    · simp [hn]
  by_cases h4 : k = 4
  · subst h4
    refine rmay_4 n p s hs _ ?_ w
    by_cases hn : n = 0
    · simp [hn]
    · simp [hn]
  by_cases h5 : k = 5
  · subst h5
    refine rmay_5 n p s hs _ ?_ w
    by_cases hn : n = 0
    · simp [hn]
    · simp [hn]
  have hd : (if n ≠ 0 then false else if k = 3 then decide ((readF s.toList).2.2 = 3) && decide (s.size ≠ 0) && decide (s.size ≤ 100) && decide (regL s.toList = s.size) else if k = 4 ∨ k = 5 then decide (s.size ≤ 100) && decide (regL s.toList = s.size) else if k = 6 then decide (s.size ≤ 4000) else decide (signL k ≠ []) && decide (s.size = 0)) =
      (if n ≠ 0 then false else if k = 6 then decide (s.size ≤ 4000) else decide (signL k ≠ []) && decide (s.size = 0)) := by
    rw [if_neg h3, if_neg (show ¬ (k = 4 ∨ k = 5) from fun h => h.elim h4 h5)]
  rw [hd]
  by_cases h6 : k = 6
  · subst h6
    have := rmay_6 n p s hs w
    rw [if_pos (rfl : (6 : Int) = 6)]
    have e : (if n ≠ 0 then false else decide (s.size ≤ 4000)) = (decide (n = 0) && decide (s.size ≤ 4000)) := by by_cases hn : n = 0 <;> simp [hn]
    rw [e]
    exact this
  have hd2 : (if n ≠ 0 then false else if k = 6 then decide (s.size ≤ 4000) else decide (signL k ≠ []) && decide (s.size = 0)) = (if n ≠ 0 then false else decide (signL k ≠ []) && decide (s.size = 0)) := by rw [if_neg h6]
  rw [hd2]
  have := rmay_s k n p s (fun j a b => by omega) w
  have e : (if n ≠ 0 then false else decide (signL k ≠ []) && decide (s.size = 0)) = (decide (n = 0) && decide (s.size = 0) && decide (7 ≤ k) && decide (k ≤ 12)) := by
    rw [sign_rng]
    by_cases hn : n = 0
    · rw [if_neg (by simpa using hn), decide_eq_true hn, Bool.true_and, Bool.and_comm, Bool.and_assoc]
    · rw [if_pos hn, decide_eq_false hn]; rfl
  rw [e]
  exact this
end Go.Proofs.Ytgahapnjlngebaa
/- Walk: layer 8's reference: text at a word that may be. -/
namespace Go.Proofs.Ytgahapnjlngebaa
open Go.RowKit

set_option maxRecDepth 100000 in
theorem rtext_any (t : Tok) (hm : mayT t = true) (w : World) :
    Calls Try.prog 22 #[t.val] w fun r w' => r = .returned (.string (bytesB (printL t))) ∧ Chg NoB w w' := by
  obtain ⟨k, n, s, p⟩ := t
  unfold mayT at hm
  unfold printL
  simp only at hm ⊢
  have X1 := (Chg.refl NoB w).alloc (tokBox k n s p)
  by_cases h1 : k = 1
  · subst h1
    rw [if_pos rfl] at hm ⊢
    simp only [Bool.and_eq_true, decide_eq_true_eq] at hm
    have HI := hid' (fun w' => rint_any n (by omega) (by omega) w')
    go_enter Try.func22, Try.ntmps22
    go_wp2_with fail
    refine (HI.out _).mono ?_
    rintro r w2 ⟨rfl, X2⟩
    go_wp2_with fail
    go_ret
    exact ⟨rfl, X1.trans X2⟩
  rw [if_neg h1] at hm ⊢
  by_cases h2 : k = 2
  · subst h2
    rw [if_pos rfl] at hm ⊢
    simp only [Bool.and_eq_true, decide_eq_true_eq] at hm
    have HI := hid' (fun w' => rfix_any n (by omega) (by omega) w')
    go_enter Try.func22, Try.ntmps22
    go_wp2_with fail
    refine (HI.out _).mono ?_
    rintro r w2 ⟨rfl, X2⟩
    go_wp2_with fail
    go_ret
    exact ⟨rfl, X1.trans X2⟩
  rw [if_neg h2] at hm ⊢
  by_cases hn : n ≠ 0
  · rw [if_pos hn] at hm; exact absurd hm (by decide)
  rw [if_neg hn] at hm
  have hn0 : n = 0 := by omega
  subst hn0
  by_cases h3 : k = 3
  · subst h3
    rw [if_pos rfl, bytes_tl]
    go_enter Try.func22, Try.ntmps22
    go_wp2_with fail
    go_ret
    exact ⟨rfl, X1⟩
  rw [if_neg h3] at hm ⊢
  by_cases h4 : k = 4
  · subst h4
    rw [if_pos rfl, ← str_app1]
    rw [if_pos (.inl rfl)] at hm
    rw [Bool.and_eq_true] at hm
    have hs := of_decide_eq_true hm.1
    have hb : ¬ (9223372036854775807 < 1 + s.size) := by omega
    clear hm
    go_enter Try.func22, Try.ntmps22
    go_wp2_with fail
    go_ret
    exact ⟨rfl, X1⟩
  rw [if_neg h4]
  by_cases h5 : k = 5
  · subst h5
    rw [if_pos rfl, ← str_app2]
    rw [if_pos (.inr rfl)] at hm
    rw [Bool.and_eq_true] at hm
    have hs := of_decide_eq_true hm.1
    have hb : ¬ (9223372036854775807 < 2 + s.size) := by omega
    clear hm
    go_enter Try.func22, Try.ntmps22
    go_wp2_with fail
    go_ret
    exact ⟨rfl, X1⟩
  rw [if_neg (fun h => h.elim h4 h5)] at hm
  rw [if_neg h5]
  by_cases h6 : k = 6
  · subst h6
    rw [if_pos rfl] at hm ⊢
    have hs := of_decide_eq_true hm
    have HI := hid' (fun w' => rparen_any s (by omega) w')
    go_enter Try.func22, Try.ntmps22
    go_wp2_with fail
    refine (HI.out _).mono ?_
    rintro r w2 ⟨rfl, X2⟩
    go_wp2_with fail
    go_ret
    exact ⟨rfl, X1.trans X2⟩
  rw [if_neg h6] at hm ⊢
  simp only [Bool.and_eq_true, decide_eq_true_eq] at hm
  have hk : k = 7 ∨ k = 8 ∨ k = 9 ∨ k = 10 ∨ k = 11 ∨ k = 12 := by
    have := hm.1
    unfold signL at this
    apply Classical.byContradiction
    intro hc
    simp only [not_or] at hc
    rw [if_neg hc.1, if_neg hc.2.1, if_neg hc.2.2.1, if_neg hc.2.2.2.1, if_neg hc.2.2.2.2.1, if_neg hc.2.2.2.2.2] at this
    exact this rfl
  clear hm h1 h2 h3 h4 h5 h6 hn
  rcases hk with rfl | rfl | rfl | rfl | rfl | rfl
  all_goals
    go_enter Try.func22, Try.ntmps22
    go_wp2_with fail
    go_ret
    exact ⟨rfl, X1⟩
end Go.Proofs.Ytgahapnjlngebaa
/- Walk: layer 8's reference: Print. -/
namespace Go.Proofs.Ytgahapnjlngebaa
open Go.RowKit

set_option maxRecDepth 100000 in
set_option maxHeartbeats 1000000 in
/-- Where a word that may not be stands among them. -/
theorem rprint_bad {w : World} {v : Value} {l : List Tok} (hv : ToksAt w v l) (hn : l.length ≤ 9223372036854775807) (i : Nat) (t : Tok) (hi : l[i]? = some t) (hm : mayT t = false) (hb : ∀ j u, j < i → l[j]? = some u → mayT u = true)
    (HMAY : ∀ t ∈ l, ∀ w, Calls Try.prog 17 #[t.val] w fun r w' => r = .returned (.bool (mayT t)) ∧ Chg NoB w w') :
    Calls Try.prog 14 #[v] w fun r w' => r = .returned (.tuple #[.string ⟨#[]⟩, .int .i64 1]) ∧ Chg NoB w w' := by
  obtain ⟨a, c, rfl, hc, hv⟩ := hv
  obtain ⟨hlt, hi'⟩ := List.getElem?_eq_some_iff.1 hi
  obtain ⟨b, off, rfl, hbl, hv⟩ := hv (by omega)
  have HV := hid' hv
  have HB := hid' hb
  have HM := hid' HMAY
  have HI := hid' hi
  have HT := hid' hm
  clear hv hb HMAY hi hi' hm
  go_enter Try.func14, Try.ntmps14
  go_wp2_with fail
  go_loopw [4] (fun iv wr => ∃ j : Nat, j ≤ i ∧ iv = .int .i64 j ∧ Chg NoB w wr) (fun iv _ => i + 1 - (intOf iv).toNat)
  case atStart => exact ⟨0, Nat.zero_le _, rfl, Chg.refl _ _⟩
  case round =>
    obtain ⟨j, hj, rfl, X⟩ := hrel
    have hlt' : (j : Int) < l.length := by omega
    have h0j : (0 : Int) ≤ j := by omega
    obtain ⟨x, hx⟩ : ∃ x, l[j]? = some x := ⟨l[j]'(by omega), List.getElem?_eq_getElem _⟩
    have hxm := HM.out x (List.mem_of_getElem? hx)
    obtain ⟨c1, c2, c3, c4⟩ := (HV.out j x hx).pure X
    have bl : b < wr.heap.size := Nat.lt_of_lt_of_le hbl X.size
    obtain ⟨xv, hxv⟩ : ∃ xv, mayT x = xv := ⟨_, rfl⟩
    rw [hxv] at hxm
    have hcase : xv = true ∧ j < i ∨ xv = false ∧ j = i := by
      by_cases e : j < i
      · exact .inl ⟨by rw [← hxv]; exact HB.out j x e hx, e⟩
      · obtain rfl : j = i := by omega
        have := HI.out.symm.trans hx
        injection this with this
        subst this
        exact .inr ⟨by rw [← hxv]; exact HT.out, rfl⟩
    have HX := hid' hxm
    obtain ⟨xk, xn, xs, xp⟩ := x
    simp only at c1 c2 c3 c4
    clear hx hxm hxv
    go_wp2_with fail
    refine (HX.out _).mono ?_
    rintro r w2 ⟨rfl, X2⟩
    have X3 := X.trans X2
    clear X X2 c1 c2 c3 c4
    rcases hcase with ⟨rfl, e⟩ | ⟨rfl, rfl⟩
    · go_wp2_with fail
      go_roundw
      case rel => exact ⟨j + 1, by omega, by go_num, X3⟩
      case measure => simp [intOf]; omega
    · go_wp2_with fail
      exact bodyPost_ret (v := .tuple #[.string ⟨#[]⟩, .int .i64 1]) (by simp [results, Try.results14, go_sem]) rfl ⟨rfl, X3⟩

set_option maxRecDepth 100000 in
set_option maxHeartbeats 1000000 in
/-- No word at all. -/
theorem rprint_none {w : World} {v : Value} (hv : ToksAt w v []) :
    Calls Try.prog 14 #[v] w fun r w' => r = .returned (.tuple #[.string ⟨#[]⟩, .int .i64 0]) ∧ Chg NoB w w' := by
  obtain ⟨a, c, rfl, hc, hv⟩ := hv
  clear hv
  have HCV : ∀ w, (convert 35 9 (.slice none 0 0)).run Try.prog w = .ok (.string ⟨#[]⟩) w := fun w => own_strF (B := 0) (b := []) (World.ownsRow_nil _ _ _ _)
  go_enter Try.func14, Try.ntmps14
  go_wp2_with fail
  go_loopw [4] (fun iv wr => iv = .int .i64 0 ∧ Chg NoB w wr) (fun iv _ => 1 - (intOf iv).toNat)
  case atStart => exact ⟨rfl, Chg.refl _ _⟩
  case round =>
    obtain ⟨rfl, X⟩ := hrel
    go_wp2_with fail
    go_loopw [6, 5] (fun iv ov wr => iv = .int .i64 0 ∧ ov = .slice none 0 0 ∧ Chg NoB w wr) (fun iv _ _ => 1 - (intOf iv).toNat)
    case atStart => exact ⟨rfl, rfl, X⟩
    case round =>
      obtain ⟨rfl, rfl, X2⟩ := hrel
      go_wp2_with fail
      refine bodyPost_ret (v := .tuple #[.string ⟨#[]⟩, .int .i64 0]) (by simp [results, Try.results14, go_sem]) rfl ?_
      exact ⟨rfl, X2⟩

set_option maxRecDepth 100000 in
set_option maxHeartbeats 1000000 in
theorem rprint_many {w : World} {v : Value} {l : List Tok} (hv : ToksAt w v l) (hn : l.length ≤ 9223372036854775807) (h4 : 4000 < l.length) (hm : ∀ t ∈ l, mayT t = true)
    (HMAY : ∀ t ∈ l, ∀ w, Calls Try.prog 17 #[t.val] w fun r w' => r = .returned (.bool (mayT t)) ∧ Chg NoB w w') :
    Calls Try.prog 14 #[v] w fun r w' => r = .returned (.tuple #[.string ⟨#[]⟩, .int .i64 5]) ∧ Chg NoB w w' := by
  obtain ⟨a, c, rfl, hc, hv⟩ := hv
  obtain ⟨b, off, rfl, hbl, hv⟩ := hv (by omega)
  have HV := hid' hv
  have HM := hid' (fun t ht w => by have := HMAY t ht w; rwa [hm t ht] at this : ∀ t ∈ l, ∀ w, Calls Try.prog 17 #[t.val] w fun r w' => r = .returned (.bool true) ∧ Chg NoB w w')
  have h4' : 4000 < (l.length : Int) := by omega
  clear hv HMAY hm
  go_enter Try.func14, Try.ntmps14
  go_wp2_with fail
  go_loopw [4] (fun iv wr => ∃ j : Nat, j ≤ l.length ∧ iv = .int .i64 j ∧ Chg NoB w wr) (fun iv _ => l.length - (intOf iv).toNat)
  case atStart => exact ⟨0, Nat.zero_le _, rfl, Chg.refl _ _⟩
  case round =>
    obtain ⟨j, hj, rfl, X⟩ := hrel
    by_cases hlt : j < l.length
    · have hlt' : (j : Int) < l.length := by omega
      have h0j : (0 : Int) ≤ j := by omega
      obtain ⟨x, hx⟩ : ∃ x, l[j]? = some x := ⟨l[j]'(by omega), List.getElem?_eq_getElem _⟩
      have HX := hid' (HM.out x (List.mem_of_getElem? hx))
      obtain ⟨c1, c2, c3, c4⟩ := (HV.out j x hx).pure X
      have bl : b < wr.heap.size := Nat.lt_of_lt_of_le hbl X.size
      obtain ⟨xk, xn, xs, xp⟩ := x
      simp only at c1 c2 c3 c4
      clear hx
      go_wp2_with fail
      refine (HX.out _).mono ?_
      rintro r w2 ⟨rfl, X2⟩
      have X3 := X.trans X2
      clear X X2 c1 c2 c3 c4
      go_wp2_with fail
      go_roundw
      case rel => exact ⟨j + 1, by omega, by go_num, X3⟩
      case measure => simp [intOf]; omega
    · obtain rfl : j = l.length := by omega
      go_wp2_with fail
      exact bodyPost_ret (v := .tuple #[.string ⟨#[]⟩, .int .i64 5]) (by simp [results, Try.results14, go_sem]) rfl ⟨rfl, X⟩
set_option maxRecDepth 100000 in
set_option maxHeartbeats 2000000 in
theorem rprint_good {w : World} {v : Value} {l : List Tok} (hv : ToksAt w v l) (h4 : l.length ≤ 4000) (h1 : 0 < l.length) (hm : ∀ t ∈ l, mayT t = true) (R : List UInt8 × Int)
    (hR : (if 20000 < (printsL l).length then ([], 5) else (printsL l, 0)) = R)
    (HMAY : ∀ t ∈ l, ∀ w, Calls Try.prog 17 #[t.val] w fun r w' => r = .returned (.bool (mayT t)) ∧ Chg NoB w w') :
    Calls Try.prog 14 #[v] w fun r w' => r = .returned (.tuple #[.string (bytesB R.1), .int .i64 R.2]) ∧ Chg NoB w w' := by
  obtain ⟨a, c, rfl, hc, hv⟩ := hv
  obtain ⟨b, off, rfl, hbl, hv⟩ := hv (by omega)
  obtain ⟨i0, hi0, hz0, hz1, hz2⟩ := info_parts tq_info
  have HV := hid' hv
  have HM := hid' (fun t ht w => by have := HMAY t ht w; rwa [hm t ht] at this : ∀ t ∈ l, ∀ w, Calls Try.prog 17 #[t.val] w fun r w' => r = .returned (.bool true) ∧ Chg NoB w w')
  have HT := hid' (fun t (ht : t ∈ l) w => rtext_any t (hm t ht) w)
  have HL := hid' (fun t (ht : t ∈ l) => print_len t (hm t ht))
  have HR := hid' hR
  have h4' : (l.length : Int) ≤ 4000 := by omega
  clear hv HMAY hm hR
  go_enter Try.func14, Try.ntmps14
  go_wp2_with fail
  go_loopw [4] (fun iv wr => ∃ j : Nat, j ≤ l.length ∧ iv = .int .i64 j ∧ Chg NoB w wr) (fun iv _ => l.length - (intOf iv).toNat)
  case atStart => exact ⟨0, Nat.zero_le _, rfl, Chg.refl _ _⟩
  case round =>
    obtain ⟨j, hj, rfl, X⟩ := hrel
    by_cases hlt : j < l.length
    · have hlt' : (j : Int) < l.length := by omega
      have h0j : (0 : Int) ≤ j := by omega
      obtain ⟨x, hx⟩ : ∃ x, l[j]? = some x := ⟨l[j]'(by omega), List.getElem?_eq_getElem _⟩
      have HX := hid' (HM.out x (List.mem_of_getElem? hx))
      obtain ⟨c1, c2, c3, c4⟩ := (HV.out j x hx).pure X
      have bl : b < wr.heap.size := Nat.lt_of_lt_of_le hbl X.size
      obtain ⟨xk, xn, xs, xp⟩ := x
      simp only at c1 c2 c3 c4
      clear hx
      go_wp2_with fail
      refine (HX.out _).mono ?_
      rintro r w2 ⟨rfl, X2⟩
      have X3 := X.trans X2
      clear X X2 c1 c2 c3 c4
      go_wp2_with fail
      go_roundw
      case rel => exact ⟨j + 1, by omega, by go_num, X3⟩
      case measure => simp [intOf]; omega
    · obtain rfl : j = l.length := by omega
      clear HM hj hlt
      go_wp2_with fail
      go_loopw [6, 5] (fun iv ov wr => ∃ i : Nat, i ≤ l.length ∧ iv = .int .i64 i ∧ QOwn w wr ov (printsL (l.take i)) ∧ (printsL (l.take i)).length ≤ 20000) (fun iv _ _ => l.length - (intOf iv).toNat)
      case atStart => exact ⟨0, Nat.zero_le _, rfl, ⟨X, World.ownsRow_nil _ _ _ _⟩, Nat.zero_le _⟩
      case round =>
        obtain ⟨i, hi, rfl, A, hlen⟩ := hrel
        clear X
        by_cases hlt : i < l.length
        · have hlt' : (i : Int) < l.length := by omega
          have h0i : (0 : Int) ≤ i := by omega
          obtain ⟨x, hx⟩ : ∃ x, l[i]? = some x := ⟨l[i]'(by omega), List.getElem?_eq_getElem _⟩
          have HX := hid' (HT.out x (List.mem_of_getElem? hx))
          have HXI := hid' hx
          have hpl := HL.out x (List.mem_of_getElem? hx)
          have HS := hid' (prints_take l i x hx)
          have HO := hid' (prints_mono l (i + 1))
          obtain ⟨c1, c2, c3, c4⟩ := (HV.out i x hx).pure A.1
          have bl : b < wr.heap.size := Nat.lt_of_lt_of_le hbl A.1.size
          have hsz : (bytesB (printL x)).size = (printL x).length := rfl
          have hcl : Lib.strCells (bytesB (printL x)) = u8L (printL x) := by rw [strCells_eq, bytesB_lst]
          generalize bytesB (printL x) = TX at *
          generalize hPX : printL x = px at *
          obtain ⟨xk, xn, xs, xp⟩ := x
          simp only at c1 c2 c3 c4
          have HA := hid' A
          clear hx A hPX
          by_cases z : i = 0
          · subst z
            simp only [Nat.zero_mul, Nat.add_zero] at c1 c2 c3 c4
            go_wp2_with fail
            refine (HX.out _).mono ?_
            rintro r w2 ⟨rfl, X2⟩
            have hown := ownB HA.out.2 X2 (fun _ _ e => e)
            go_wp2_with (at_builtin; refine Lib.wpList_append_own_string _ rfl _ _ 35 9 rfl w.heap.size 5 i0 Try.underBytes Try.underStr hi0 hz0 hz1 hz2 _ _ _ rfl hown TX rfl (by unfold maxLen; rw [hsz]; omega) (by rw [hsz]; omega) (Nat.le_trans HA.out.1.size X2.size) ?_)
            intro v' w3 hown3 hgr3 _
            have A4 := QOwn.txt HA.out X2 hown3 hgr3
            rw [show printsL (l.take 0) ++ px = printsL (l.take (0 + 1)) by rw [HS.out]; simp] at A4
            clear hown3 hgr3 hown X2
            by_cases big : 20000 < (printsL (l.take (0 + 1))).length
            · have hbig : (20000 < ((printsL (l.take (0 + 1))).length : Int)) := by omega
              have hr := HR.out
              rw [if_pos (by have := HO.out; omega)] at hr
              subst hr
              obtain ⟨a4, k4, rfl, -⟩ := own_val A4.2
              have HC := hid' A4.1
              clear A4
              generalize (printsL (l.take (0 + 1))).length = N4 at *
              go_wp2_with fail
              exact bodyPost_ret (v := .tuple #[.string ⟨#[]⟩, .int .i64 5]) (by simp [results, Try.results14, go_sem]) rfl ⟨rfl, HC.out⟩
            · have hbig : ¬ (20000 < ((printsL (l.take (0 + 1))).length : Int)) := by omega
              obtain ⟨a4, k4, rfl, -⟩ := own_val A4.2
              have HC := hid' A4
              clear A4
              generalize hN4 : (printsL (l.take (0 + 1))).length = N4 at *
              go_wp2_with fail
              go_roundw
              case rel =>
                have A5 := HC.out
                exact ⟨0 + 1, by omega, by go_num, A5, by omega⟩
              case measure => simp [intOf]; omega
          · have hz : 0 < (i : Int) := by omega
            have hownA := ownB HA.out.2 ((Chg.refl NoB wr).alloc (.cells #[u8V 32] 5)) (fun _ _ e => e)
            go_wp2_with (at_builtin; refine wpList_append_own_at _ rfl _ _ 35 rfl w.heap.size 5 i0 (.int .u8 0) 1 1 tq_under hi0 hz0 hz1 hz2 rfl (by decide) _ _ _ rfl hownA _ 1 1 [u8V 32] rfl rfl (fun j u hj => cells_new _ _ _ j u hj) (fun u hu => by simp only [List.mem_singleton] at hu; subst hu; rfl) (by unfold maxLen; omega) (by omega) (by have := HA.out.1.size; simp; omega) ?_)
            intro v1 w1 hown1 hgr1 _ _
            have A1 := QOwn.blank HA.out ((Chg.refl NoB wr).alloc _) hown1 hgr1
            have X1 : Chg (fun k => k < wr.heap.size) wr w1 := Chg.grown (((Chg.refl _ _).alloc _)) hgr1 (fun k hk => .inl (own_ge HA.out.2 k (by rw [hk]; simp)).2)
            obtain ⟨d1, d2, d3, d4⟩ := (HV.out i _ HXI.out).pure A1.1
            simp only at d1 d2 d3 d4
            have bl1 : b < w1.heap.size := Nat.lt_of_lt_of_le hbl A1.1.size
            obtain ⟨a1, k1, rfl, -⟩ := own_val A1.2
            have hlen1 : (printsL (l.take i) ++ [32]).length = (printsL (l.take i)).length + 1 := by simp
            clear hown1 hgr1 hownA c1 c2 c3 c4 X1
            go_wp2_with fail
            refine (HX.out _).mono ?_
            rintro r w2 ⟨rfl, X2⟩
            have hown := ownB A1.2 X2 (fun _ _ e => e)
            rw [hlen1] at hown
            go_wp2_with (at_builtin; refine Lib.wpList_append_own_string _ rfl _ _ 35 9 rfl w.heap.size 5 i0 Try.underBytes Try.underStr hi0 hz0 hz1 hz2 _ _ _ rfl hown TX rfl (by unfold maxLen; rw [hsz]; omega) (by rw [hsz]; omega) (Nat.le_trans A1.1.size X2.size) ?_)
            intro v' w3 hown3 hgr3 _
            have A4 := QOwn.txt2 A1 X2 hown3 (by rw [hlen1]; exact hgr3)
            rw [show printsL (l.take i) ++ [32] ++ px = printsL (l.take (i + 1)) by rw [HS.out, if_neg z]; simp] at A4
            clear hown3 hgr3 hown X2 A1 hlen1
            by_cases big : 20000 < (printsL (l.take (i + 1))).length
            · have hbig : (20000 < ((printsL (l.take (i + 1))).length : Int)) := by omega
              have hr := HR.out
              rw [if_pos (by have := HO.out; omega)] at hr
              subst hr
              obtain ⟨a4, k4, rfl, -⟩ := own_val A4.2
              have HC := hid' A4.1
              clear A4
              generalize (printsL (l.take (i + 1))).length = N4 at *
              go_wp2_with fail
              exact bodyPost_ret (v := .tuple #[.string ⟨#[]⟩, .int .i64 5]) (by simp [results, Try.results14, go_sem]) rfl ⟨rfl, HC.out⟩
            · have hbig : ¬ (20000 < ((printsL (l.take (i + 1))).length : Int)) := by omega
              obtain ⟨a4, k4, rfl, -⟩ := own_val A4.2
              have HC := hid' A4
              clear A4
              generalize hN4 : (printsL (l.take (i + 1))).length = N4 at *
              go_wp2_with fail
              go_roundw
              case rel =>
                have A5 := HC.out
                exact ⟨i + 1, by omega, by go_num, A5, by omega⟩
              case measure => simp [intOf]; omega
        · obtain rfl : i = l.length := by omega
          rw [List.take_length] at A hlen
          have hr := HR.out
          rw [if_neg (by omega)] at hr
          subst hr
          have hcv := own_strF A.2
          have HC := hid' A.1
          clear A
          go_wp2_with fail
          refine bodyPost_ret (v := .tuple #[.string (bytesB (printsL l)), .int .i64 0]) (by simp [results, Try.results14, go_sem]) rfl ?_
          exact ⟨rfl, HC.out⟩
theorem rprint_any {w : World} {v : Value} {l : List Tok} (hv : ToksAt w v l) (hn : l.length ≤ 9223372036854775807) (hok : ∀ t ∈ l, t.s.size ≤ 9223372036854775807) :
    Calls Try.prog 14 #[v] w fun r w' => r = .returned (.tuple #[.string (bytesB (printF l).1), .int .i64 (printF l).2]) ∧ Chg NoB w w' := by
  have HM : ∀ t ∈ l, ∀ w, Calls Try.prog 17 #[t.val] w fun r w' => r = .returned (.bool (mayT t)) ∧ Chg NoB w w' :=
    fun t ht w => rmayT_any t (hok t ht) w
  rcases first_bad l with h | ⟨i, t, h1, h2, h3⟩
  · by_cases h4 : 4000 < l.length
    · have e : printF l = ([], 5) := by unfold printF; rw [if_neg (fun e => e h), if_pos h4]
      rw [e]
      exact rprint_many hv hn h4 h HM
    · by_cases h0 : l.length = 0
      · obtain rfl := List.length_eq_zero_iff.1 h0
        have e : printF [] = ([], 0) := by unfold printF; rw [if_neg (fun e => e h), if_neg h4]; rfl
        rw [e]
        exact rprint_none hv
      · have e : printF l = (if 20000 < (printsL l).length then ([], 5) else (printsL l, 0)) := by unfold printF; rw [if_neg (fun e => e h), if_neg h4]
        exact rprint_good hv (by omega) (by omega) h _ e.symm HM
  · have e : printF l = ([], 1) := by
      unfold printF
      rw [if_pos (fun a => by rw [a t (List.mem_of_getElem? h1)] at h2; exact absurd h2 (by decide))]
    rw [e]
    exact rprint_bad hv hn i t h1 h2 h3 HM
end Go.Proofs.Ytgahapnjlngebaa
