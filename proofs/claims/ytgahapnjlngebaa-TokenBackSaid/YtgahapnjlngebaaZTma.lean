/- Walk: token.May at whatever word, the kinds 1, 2, 6 and above, and those that no word has. -/
import Derived.Test.YtgahapnjlngebaaZTmy
import Derived.Test.YtgahapnjlngebaaZTxw
namespace Go.Proofs.Ytgahapnjlngebaa
open Go.RowKit

set_option maxRecDepth 100000 in
theorem sign_all (k : Int) (h0 : -9223372036854775808 ≤ k) (h1 : k ≤ 9223372036854775807) (w : World) : Calls Try.prog 26 #[.int .i64 k] w fun e w' => e = .returned (.string (signB k)) ∧ w = w' := by
  have hr : signL k = if k = 7 then [123] else if k = 8 then [125] else if k = 9 then [91] else if k = 10 then [93] else if k = 11 then [60, 60] else if k = 12 then [62, 62] else [] := rfl
  by_cases c7 : k = 7
  · subst c7
    go_enter Try.func26, Try.ntmps26
    go_wp2
    go_ret
    exact ⟨rfl, rfl⟩
  by_cases c8 : k = 8
  · subst c8
    go_enter Try.func26, Try.ntmps26
    go_wp2
    go_ret
    exact ⟨rfl, rfl⟩
  by_cases c9 : k = 9
  · subst c9
    go_enter Try.func26, Try.ntmps26
    go_wp2
    go_ret
    exact ⟨rfl, rfl⟩
  by_cases c10 : k = 10
  · subst c10
    go_enter Try.func26, Try.ntmps26
    go_wp2
    go_ret
    exact ⟨rfl, rfl⟩
  by_cases c11 : k = 11
  · subst c11
    go_enter Try.func26, Try.ntmps26
    go_wp2
    go_ret
    exact ⟨rfl, rfl⟩
  by_cases c12 : k = 12
  · subst c12
    go_enter Try.func26, Try.ntmps26
    go_wp2
    go_ret
    exact ⟨rfl, rfl⟩
  rw [if_neg c7, if_neg c8, if_neg c9, if_neg c10, if_neg c11, if_neg c12] at hr
  have HR := hid' hr
  have u7 : (wrap64 (k - 7) == 0) = false := by
    have : wrap64 (k - 7) ≠ 0 := by unfold wrap64; omega
    simpa using this
  have u8 : (wrap64 (k - 7) == 1) = false := by
    have : wrap64 (k - 7) ≠ 1 := by unfold wrap64; omega
    simpa using this
  have u9 : (wrap64 (k - 7) == 2) = false := by
    have : wrap64 (k - 7) ≠ 2 := by unfold wrap64; omega
    simpa using this
  have u10 : (wrap64 (k - 7) == 3) = false := by
    have : wrap64 (k - 7) ≠ 3 := by unfold wrap64; omega
    simpa using this
  have u11 : (wrap64 (k - 7) == 4) = false := by
    have : wrap64 (k - 7) ≠ 4 := by unfold wrap64; omega
    simpa using this
  have u12 : (wrap64 (k - 7) == 5) = false := by
    have : wrap64 (k - 7) ≠ 5 := by unfold wrap64; omega
    simpa using this
  clear hr c7 c8 c9 c10 c11 c12
  go_enter Try.func26, Try.ntmps26
  go_wp2
  go_ret
  exact ⟨by rw [signB, HR.out]; rfl, rfl⟩
theorem some_ne {s : ByteArray} (c1 : s.size ≠ 0) : s.toList.isEmpty = false := by
  have := tl_size s
  cases hl : s.toList with
  | nil => rw [hl] at this; exact absurd this.symm c1
  | cons => rfl
set_option maxRecDepth 100000 in
theorem mayK_1 (n p : Int) (s : ByteArray) (v : Bool) (hv : (decide (s.size = 0) && decide (-2147483647 ≤ n) && decide (n ≤ 2147483647)) = v) (w : World) :
    Calls Try.prog 16 #[Tok.val ⟨1, n, s, p⟩] w fun r w' => r = .returned (.bool v) ∧ Chg NoB w w' := by
  have X1 := (Chg.refl NoB w).alloc (tokBox 1 n s p)
  by_cases c1 : s.size = 0
  · obtain rfl := size0 c1
    rw [c1, show decide ((0 : Nat) = 0) = true from rfl, Bool.true_and] at hv
    clear c1
    by_cases c2 : -2147483647 ≤ n
    · have d2 : decide (-2147483647 ≤ n) = true := decide_eq_true c2
      rw [d2, Bool.true_and] at hv
      clear c2
      go_enter Try.func16, Try.ntmps16
      go_wp2_with fail
      go_ret
      exact ⟨rfl, X1⟩
    · have d2 : decide (-2147483647 ≤ n) = false := decide_eq_false c2
      rw [d2, Bool.false_and] at hv
      subst hv
      clear c2
      go_enter Try.func16, Try.ntmps16
      go_wp2_with fail
      go_ret
      exact ⟨rfl, X1⟩
  · have c2 := some_ne c1
    rw [decide_eq_false c1, Bool.false_and, Bool.false_and] at hv
    subst hv
    clear c1
    go_enter Try.func16, Try.ntmps16
    go_wp2_with fail
    go_ret
    exact ⟨rfl, X1⟩
set_option maxRecDepth 100000 in
theorem mayK_2 (n p : Int) (s : ByteArray) (v : Bool) (hv : (decide (s.size = 0) && decide (-1073741823 ≤ n) && decide (n ≤ 1073741823)) = v) (w : World) :
    Calls Try.prog 16 #[Tok.val ⟨2, n, s, p⟩] w fun r w' => r = .returned (.bool v) ∧ Chg NoB w w' := by
  have X1 := (Chg.refl NoB w).alloc (tokBox 2 n s p)
  by_cases c1 : s.size = 0
  · obtain rfl := size0 c1
    rw [c1, show decide ((0 : Nat) = 0) = true from rfl, Bool.true_and] at hv
    clear c1
    by_cases c2 : -1073741823 ≤ n
    · have d2 : decide (-1073741823 ≤ n) = true := decide_eq_true c2
      rw [d2, Bool.true_and] at hv
      clear c2
      go_enter Try.func16, Try.ntmps16
      go_wp2_with fail
      go_ret
      exact ⟨rfl, X1⟩
    · have d2 : decide (-1073741823 ≤ n) = false := decide_eq_false c2
      rw [d2, Bool.false_and] at hv
      subst hv
      clear c2
      go_enter Try.func16, Try.ntmps16
      go_wp2_with fail
      go_ret
      exact ⟨rfl, X1⟩
  · have c2 := some_ne c1
    rw [decide_eq_false c1, Bool.false_and, Bool.false_and] at hv
    subst hv
    clear c1
    go_enter Try.func16, Try.ntmps16
    go_wp2_with fail
    go_ret
    exact ⟨rfl, X1⟩
set_option maxRecDepth 100000 in
theorem mayK_n (k n p : Int) (s : ByteArray) (h1 : k ≠ 1) (h2 : k ≠ 2) (hn : n ≠ 0) (w : World) :
    Calls Try.prog 16 #[Tok.val ⟨k, n, s, p⟩] w fun r w' => r = .returned (.bool false) ∧ Chg NoB w w' := by
  have X1 := (Chg.refl NoB w).alloc (tokBox k n s p)
  have e1 : (k == 1) = false := by simpa using h1
  have e2 : (k == 2) = false := by simpa using h2
  have e3 : (n == 0) = false := by simpa using hn
  clear h1 h2 hn
  go_enter Try.func16, Try.ntmps16
  go_wp2_with fail
  go_ret
  exact ⟨rfl, X1⟩
set_option maxRecDepth 100000 in
theorem mayK_6 (p : Int) (s : ByteArray) (hs : s.size ≤ 9223372036854775807) (w : World) :
    Calls Try.prog 16 #[Tok.val ⟨6, 0, s, p⟩] w fun r w' => r = .returned (.bool (decide (s.size ≤ 4000))) ∧ Chg NoB w w' := by
  have X1 := (Chg.refl NoB w).alloc (tokBox 6 0 s p)
  have hm := IntWalk.i64_in (s.size) (by omega)
  have e : decide (s.size ≤ 4000) = decide ((s.size : Int) ≤ 4000) := by
    rw [decide_eq_decide]; omega
  rw [e]
  go_enter Try.func16, Try.ntmps16
  go_wp2_with fail
  go_ret
  exact ⟨rfl, X1⟩
theorem signB_ne (k : Int) (h : signL k ≠ []) : (signB k).toList.isEmpty = false := by
  apply some_ne
  intro e
  exact h (List.eq_nil_of_length_eq_zero e)
set_option maxRecDepth 100000 in
theorem mayK_s (k p : Int) (s : ByteArray) (h0 : -9223372036854775808 ≤ k) (h9 : k ≤ 9223372036854775807) (hk : ∀ j : Int, 1 ≤ j → j ≤ 6 → k ≠ j) (v : Bool) (hv : (decide (signL k ≠ []) && decide (s.size = 0)) = v) (w : World) :
    Calls Try.prog 16 #[Tok.val ⟨k, 0, s, p⟩] w fun r w' => r = .returned (.bool v) ∧ Chg NoB w w' := by
  have X1 := (Chg.refl NoB w).alloc (tokBox k 0 s p)
  have HI := hid' (fun w' => sign_all k h0 h9 w')
  have e1 : (k == 1) = false := by simpa using hk 1 (by omega) (by omega)
  have e2 : (k == 2) = false := by simpa using hk 2 (by omega) (by omega)
  have e3 : (k == 3) = false := by simpa using hk 3 (by omega) (by omega)
  have e4 : (k == 4) = false := by simpa using hk 4 (by omega) (by omega)
  have e5 : (k == 5) = false := by simpa using hk 5 (by omega) (by omega)
  have e6 : (k == 6) = false := by simpa using hk 6 (by omega) (by omega)
  have hb := blk_new w (tokBox k 0 s p)
  clear hk h0 h9
  by_cases c1 : signL k = []
  · rw [decide_eq_false (not_not_intro c1), Bool.false_and] at hv
    subst hv
    rw [show signB k = ⟨#[]⟩ by unfold signB; rw [c1]] at HI
    clear c1
    go_enter Try.func16, Try.ntmps16
    go_wp2_with fail
    refine (HI.out _).mono ?_
    rintro r w2 ⟨rfl, rfl⟩
    have R1 := cells_of hb
    have l1 := blk_lt hb
    go_wp2_with fail
    go_ret
    exact ⟨rfl, X1⟩
  · rw [decide_eq_true c1, Bool.true_and] at hv
    have c3 := signB_ne k c1
    generalize signB k = B at *
    clear c1
    by_cases c2 : s.size = 0
    · obtain rfl := size0 c2
      rw [decide_eq_true c2] at hv
      subst hv
      go_enter Try.func16, Try.ntmps16
      go_wp2_with fail
      refine (HI.out _).mono ?_
      rintro r w2 ⟨rfl, rfl⟩
      have R1 := cells_of hb
      have l1 := blk_lt hb
      go_wp2_with fail
      go_ret
      exact ⟨rfl, X1⟩
    · have c4 := some_ne c2
      rw [decide_eq_false c2] at hv
      subst hv
      clear c2
      go_enter Try.func16, Try.ntmps16
      go_wp2_with fail
      refine (HI.out _).mono ?_
      rintro r w2 ⟨rfl, rfl⟩
      have R1 := cells_of hb
      have l1 := blk_lt hb
      go_wp2_with fail
      go_ret
      exact ⟨rfl, X1⟩
end Go.Proofs.Ytgahapnjlngebaa
