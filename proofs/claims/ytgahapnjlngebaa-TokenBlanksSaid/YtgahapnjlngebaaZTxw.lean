/- Walk: token.text at a word that may be. -/
import Derived.Test.YtgahapnjlngebaaZTmy
import Derived.Test.YtgahapnjlngebaaZFxw
import Derived.Test.YtgahapnjlngebaaZQpr
namespace Go.Proofs.Ytgahapnjlngebaa
open Go.RowKit

theorem str_app1 (s : ByteArray) : (⟨#[47]⟩ : ByteArray) ++ s = bytesB (47 :: s.toList) := by
  apply ByteArray.ext
  rw [ByteArray.data_append, ByteArray.toList_eq]
  apply Array.toList_inj.1
  simp
theorem str_app2 (s : ByteArray) : (⟨#[47, 47]⟩ : ByteArray) ++ s = bytesB (47 :: 47 :: s.toList) := by
  apply ByteArray.ext
  rw [ByteArray.data_append, ByteArray.toList_eq]
  apply Array.toList_inj.1
  simp
set_option maxRecDepth 100000 in
theorem text_any (t : Tok) (hm : mayT t = true) (w : World) :
    Calls Try.prog 23 #[t.val] w fun r w' => r = .returned (.string (bytesB (printL t))) ∧ Chg NoB w w' := by
  obtain ⟨k, n, s, p⟩ := t
  unfold mayT at hm
  unfold printL
  simp only at hm ⊢
  have X1 := (Chg.refl NoB w).alloc (tokBox k n s p)
  by_cases h1 : k = 1
  · subst h1
    rw [if_pos rfl] at hm ⊢
    simp only [Bool.and_eq_true, decide_eq_true_eq] at hm
    have HI := hid' (fun w' => nint_any n (by omega) (by omega) w')
    go_enter Try.func23, Try.ntmps23
    go_wp2_with fail
    refine (HI.out _).mono ?_
    rintro r w2 ⟨rfl, X2⟩
    go_wp2_with fail
    go_ret
    exact ⟨rfl, X1.trans X2⟩
  rw [if_neg h1] at hm ⊢
  by_cases h2 : k = 2
  · subst h2
    rw [if_pos rfl] at hm ⊢
    simp only [Bool.and_eq_true, decide_eq_true_eq] at hm
    have HI := hid' (fun w' => fixText_any n (by omega) (by omega) w')
    go_enter Try.func23, Try.ntmps23
    go_wp2_with fail
    refine (HI.out _).mono ?_
    rintro r w2 ⟨rfl, X2⟩
    go_wp2_with fail
    go_ret
    exact ⟨rfl, X1.trans X2⟩
  rw [if_neg h2] at hm ⊢
  by_cases hn : n ≠ 0
  · rw [if_pos hn] at hm; exact absurd hm (by decide)
  rw [if_neg hn] at hm
  have hn0 : n = 0 := by omega
  subst hn0
  by_cases h3 : k = 3
  · subst h3
    rw [if_pos rfl, bytes_tl]
    go_enter Try.func23, Try.ntmps23
    go_wp2_with fail
    go_ret
    exact ⟨rfl, X1⟩
  rw [if_neg h3] at hm ⊢
  by_cases h4 : k = 4
  · subst h4
    rw [if_pos rfl, ← str_app1]
    rw [if_pos (.inl rfl)] at hm
    rw [Bool.and_eq_true] at hm
    have hs := of_decide_eq_true hm.1
    have hb : ¬ (9223372036854775807 < 1 + s.size) := by omega
    clear hm
    go_enter Try.func23, Try.ntmps23
    go_wp2_with fail
    go_ret
    exact ⟨rfl, X1⟩
  rw [if_neg h4]
  by_cases h5 : k = 5
  · subst h5
    rw [if_pos rfl, ← str_app2]
    rw [if_pos (.inr rfl)] at hm
    rw [Bool.and_eq_true] at hm
    have hs := of_decide_eq_true hm.1
    have hb : ¬ (9223372036854775807 < 2 + s.size) := by omega
    clear hm
    go_enter Try.func23, Try.ntmps23
    go_wp2_with fail
    go_ret
    exact ⟨rfl, X1⟩
  rw [if_neg (fun h => h.elim h4 h5)] at hm
  rw [if_neg h5]
  by_cases h6 : k = 6
  · subst h6
    rw [if_pos rfl] at hm ⊢
    have hs := of_decide_eq_true hm
    have HI := hid' (fun w' => parenP_any s (by omega) w')
    go_enter Try.func23, Try.ntmps23
    go_wp2_with fail
    refine (HI.out _).mono ?_
    rintro r w2 ⟨rfl, X2⟩
    go_wp2_with fail
    go_ret
    exact ⟨rfl, X1.trans X2⟩
  rw [if_neg h6] at hm ⊢
  simp only [Bool.and_eq_true, decide_eq_true_eq] at hm
  have hk : k = 7 ∨ k = 8 ∨ k = 9 ∨ k = 10 ∨ k = 11 ∨ k = 12 := by
    have := hm.1
    unfold signL at this
    apply Classical.byContradiction
    intro hc
    simp only [not_or] at hc
    rw [if_neg hc.1, if_neg hc.2.1, if_neg hc.2.2.1, if_neg hc.2.2.2.1, if_neg hc.2.2.2.2.1, if_neg hc.2.2.2.2.2] at this
    exact this rfl
  have HI := hid' (fun w' => sign_any k (by omega) (by omega) w')
  have e1 : (k == 1) = false := by simpa using h1
  have e2 : (k == 2) = false := by simpa using h2
  have e3 : (k == 3) = false := by simpa using h3
  have e4 : (k == 4) = false := by simpa using h4
  have e5 : (k == 5) = false := by simpa using h5
  have e6 : (k == 6) = false := by simpa using h6
  clear hm hk h1 h2 h3 h4 h5 h6 hn
  go_enter Try.func23, Try.ntmps23
  go_wp2_with fail
  refine (HI.out _).mono ?_
  rintro r w2 ⟨rfl, rfl⟩
  go_wp2_with fail
  go_ret
  exact ⟨rfl, X1⟩
end Go.Proofs.Ytgahapnjlngebaa
