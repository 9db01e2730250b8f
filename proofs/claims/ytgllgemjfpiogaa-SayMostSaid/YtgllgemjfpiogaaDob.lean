/- obj.Same and what it calls. -/
import Derived.Test.YtgllgemjfpiogaaDpm
namespace Go.Proofs.Ytgllgemjfpiogaa
open Go.RowKit

/-- What a number stands for. -/
def sizeO (o : O) : Int × Bool := if mayO o = false then (0, false) else if o.kind = 3 then (o.n * 65536, true) else if o.kind = 4 then (o.n, true) else (0, false)
def unO (o : O) : O := ⟨o.kind, false, o.n, o.pos, o.len, o.s⟩
def sameO (a b : O) : Bool := if (sizeO a).2 = true ∧ (sizeO b).2 = true then decide ((sizeO a).1 = (sizeO b).1) else eqO (unO a) (unO b)
theorem sizeO_num (o : O) (h : (sizeO o).2 = true) : o.kind = 3 ∨ o.kind = 4 := by
  unfold sizeO at h
  split at h
  · simp at h
  · split at h
    · left; assumption
    · split at h
      · right; assumption
      · simp at h
/-- What is not even alike is not the same. -/
theorem same_not (x k : O) (h1 : ¬ (x.kind = k.kind ∧ x.s = k.s)) (h2 : ¬ k.kind = 3) (h3 : ¬ k.kind = 4) : sameO x k = false := by
  unfold sameO
  rw [if_neg (fun h => (sizeO_num k h.2).elim h2 h3)]
  refine eqO_ne fun e => h1 ?_
  simp only [unO, O.mk.injEq] at e
  exact ⟨e.1, e.2.2.2.2.2⟩
/-- The key that an object stands for. -/
def keyD (L : List C) (o : O) : O × Int :=
  if o.kind = 1 then (O.nil, 6) else if mayH L o = false then (O.nil, 1) else if o.kind = 8 then
    if 100 < ((bytesH L o).1.size : Int) then (O.nil, 5) else (⟨5, false, 0, 0, 0, (bytesH L o).1⟩, 0)
  else (unO o, 0)
/-- The place of a key's pair. -/
def PlaceS (ps : List (O × O)) (k : O) (i : Nat) (b : Bool) : Prop :=
  (b = true ∧ (∃ p, ps[i]? = some p ∧ sameO p.1 k = true) ∧ ∀ (j : Nat) (p : O × O), j < i → ps[j]? = some p → sameO p.1 k = false) ∨ (b = false ∧ i = 0 ∧ ∀ (j : Nat) (p : O × O), ps[j]? = some p → sameO p.1 k = false)
end Go.Proofs.Ytgllgemjfpiogaa
