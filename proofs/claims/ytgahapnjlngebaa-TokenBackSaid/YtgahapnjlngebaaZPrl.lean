/- Walk: token.Print answers printF, whatever the words. -/
import Derived.Test.YtgahapnjlngebaaZPrk
import Derived.Test.YtgahapnjlngebaaZTmz
namespace Go.Proofs.Ytgahapnjlngebaa
open Go.RowKit

theorem first_bad : ∀ l : List Tok, (∀ t ∈ l, mayT t = true) ∨ ∃ (i : Nat) (t : Tok), l[i]? = some t ∧ mayT t = false ∧ ∀ j u, j < i → l[j]? = some u → mayT u = true
  | [] => .inl fun t h => by simp at h
  | x :: l => by
    cases hx : mayT x with
    | false => exact .inr ⟨0, x, rfl, hx, fun j u hj => by omega⟩
    | true =>
      rcases first_bad l with h | ⟨i, t, h1, h2, h3⟩
      · exact .inl fun t ht => by
          rcases List.mem_cons.1 ht with rfl | ht
          · exact hx
          · exact h t ht
      · refine .inr ⟨i + 1, t, by simpa using h1, h2, fun j u hj hu => ?_⟩
        cases j with
        | zero => simp at hu; subst hu; exact hx
        | succ j => exact h3 j u (by omega) (by simpa using hu)
theorem may_ok (t : Tok) (hm : mayT t = true) : t.s.size ≤ 9223372036854775807 ∧ -9223372036854775808 ≤ t.kind ∧ t.kind ≤ 9223372036854775807 := by
  obtain ⟨k, n, s, p⟩ := t
  unfold mayT at hm
  simp only at hm ⊢
  split at hm
  · simp only [Bool.and_eq_true, decide_eq_true_eq] at hm; omega
  split at hm
  · simp only [Bool.and_eq_true, decide_eq_true_eq] at hm; omega
  split at hm
  · exact absurd hm (by decide)
  split at hm
  · simp only [Bool.and_eq_true, decide_eq_true_eq] at hm; omega
  split at hm
  · simp only [Bool.and_eq_true, decide_eq_true_eq] at hm; omega
  split at hm
  · simp only [decide_eq_true_eq] at hm; omega
  · simp only [Bool.and_eq_true, decide_eq_true_eq] at hm
    have hs := hm.1
    unfold signL at hs
    by_cases c : 7 ≤ k ∧ k ≤ 12
    · omega
    · repeat rw [if_neg (by omega)] at hs
      exact absurd rfl hs
theorem print_any {w : World} {v : Value} {l : List Tok} (hv : ToksAt w v l) (hn : l.length ≤ 9223372036854775807) (hok : ∀ t ∈ l, t.s.size ≤ 9223372036854775807 ∧ -9223372036854775808 ≤ t.kind ∧ t.kind ≤ 9223372036854775807) :
    Calls Try.prog 15 #[v] w fun r w' => r = .returned (.tuple #[.string (bytesB (printF l).1), .int .i64 (printF l).2]) ∧ Chg NoB w w' := by
  have HM : ∀ t ∈ l, ∀ w, Calls Try.prog 16 #[t.val] w fun r w' => r = .returned (.bool (mayT t)) ∧ Chg NoB w w' :=
    fun t ht w => mayTok_any t (hok t ht).1 (hok t ht).2.1 (hok t ht).2.2 w
  rcases first_bad l with h | ⟨i, t, h1, h2, h3⟩
  · by_cases h4 : 4000 < l.length
    · have e : printF l = ([], 5) := by unfold printF; rw [if_neg (fun e => e h), if_pos h4]
      rw [e]
      exact print_many hv hn h4 h HM
    · by_cases h0 : l.length = 0
      · obtain rfl := List.length_eq_zero_iff.1 h0
        have e : printF [] = ([], 0) := by unfold printF; rw [if_neg (fun e => e h), if_neg h4]; rfl
        rw [e]
        exact print_none hv
      · have e : printF l = (if 20000 < (printsL l).length then ([], 5) else (printsL l, 0)) := by unfold printF; rw [if_neg (fun e => e h), if_neg h4]
        exact print_good hv (by omega) (by omega) h _ e.symm HM
  · have e : printF l = ([], 1) := by
      unfold printF
      rw [if_pos (fun a => by rw [a t (List.mem_of_getElem? h1)] at h2; exact absurd h2 (by decide))]
    rw [e]
    exact print_bad hv hn i t h1 h2 h3 HM
end Go.Proofs.Ytgahapnjlngebaa
