/- Plain: how long a printed word is; a row of bytes that grows by a blank, by a text. -/
import Derived.Test.YtgahapnjlngebaaZPri
namespace Go.Proofs.Ytgahapnjlngebaa
open Go.RowKit

theorem print_len (t : Tok) (hm : mayT t = true) : (printL t).length ≤ 17000 := by
  obtain ⟨k, n, s, p⟩ := t
  unfold mayT at hm
  unfold printL
  simp only at hm ⊢
  have hs := size_lst s
  by_cases h1 : k = 1
  · rw [if_pos h1] at hm ⊢
    simp only [Bool.and_eq_true, decide_eq_true_eq] at hm
    have := decL_short n (by omega) (by omega)
    omega
  rw [if_neg h1] at hm ⊢
  by_cases h2 : k = 2
  · rw [if_pos h2] at hm ⊢
    simp only [Bool.and_eq_true, decide_eq_true_eq] at hm
    have := fix_len n (by omega) (by omega)
    omega
  rw [if_neg h2] at hm ⊢
  by_cases hn : n ≠ 0
  · rw [if_pos hn] at hm; exact absurd hm (by decide)
  rw [if_neg hn] at hm
  by_cases h3 : k = 3
  · rw [if_pos h3] at hm ⊢
    simp only [Bool.and_eq_true, decide_eq_true_eq] at hm
    omega
  rw [if_neg h3] at hm ⊢
  by_cases h4 : k = 4
  · rw [if_pos h4]; rw [if_pos (.inl h4)] at hm
    simp only [Bool.and_eq_true, decide_eq_true_eq] at hm
    rw [List.length_cons]; omega
  rw [if_neg h4]
  by_cases h5 : k = 5
  · rw [if_pos h5]; rw [if_pos (.inr h5)] at hm
    simp only [Bool.and_eq_true, decide_eq_true_eq] at hm
    rw [List.length_cons, List.length_cons]; omega
  rw [if_neg (fun h => h.elim h4 h5)] at hm
  rw [if_neg h5]
  by_cases h6 : k = 6
  · rw [if_pos h6] at hm ⊢
    simp only [decide_eq_true_eq] at hm
    have := quote_len s.toList
    show (40 :: (quoteQ s.toList ++ [41])).length ≤ 17000
    simp; omega
  rw [if_neg h6]
  unfold signL
  repeat' split
  all_goals simp
end Go.Proofs.Ytgahapnjlngebaa
