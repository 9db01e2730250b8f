/- Walks: (*Heap).find. -/
import Derived.Test.YtgllgemjfpiogaaHr2
namespace Go.Proofs.Ytgllgemjfpiogaa
open Go.RowKit

theorem findE_zero {L : List C} {o : O} (h : findE L o = 0) : held o = true ∧ mayO o = true ∧ ∃ c, L[o.n.toNat]? = some c ∧ c.kind = o.kind ∧ o.pos + o.len ≤ c.size ∧ o.n < L.length := by
  unfold findE at h
  by_cases hh : held o = false
  · simp [hh] at h
  · simp only [Bool.not_eq_false] at hh
    by_cases hm : mayH L o = false
    · simp [hh, hm] at h
    · simp only [Bool.not_eq_false] at hm
      simp only [mayH, hh, Bool.and_eq_true, Bool.not_true, Bool.false_or, decide_eq_true_eq] at hm
      obtain ⟨h1, h2, h3⟩ := hm
      refine ⟨hh, h1, ?_⟩
      cases hc : L[o.n.toNat]? with
      | none => rw [hc] at h3; simp at h3
      | some c => rw [hc] at h3; simp at h3; exact ⟨c, rfl, h3.1, h3.2, h2⟩

end Go.Proofs.Ytgllgemjfpiogaa
