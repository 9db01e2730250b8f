/- Walk: Put. -/
import Derived.Test.YtgllgemjfpiogaaHcp
import Derived.StillTailTactics
namespace Go.Proofs.Ytgllgemjfpiogaa
open Go.RowKit

/-- What Put answers, and leaves. -/
def putH (L : List C) (o : O) (i : Int) (q : O) : List C × Int :=
  if findE L o ≠ 0 then (L, findE L o)
  else if findE L q ≠ 0 then (L, findE L q)
  else if o.kind = 10 ∨ o.kind ≠ q.kind then (L, 6)
  else match L[o.n.toNat]?, L[q.n.toNat]? with
    | some c, some d =>
      if ¬ (0 ≤ i ∧ 0 ≤ lenOf d q ∧ i ≤ lenOf c o ∧ lenOf d q ≤ lenOf c o - i) then (L, 12)
      else if c.locked then (L, 1)
      else if c.text then (L.set o.n.toNat { c with bytes := splice c.bytes (atOf o + i).toNat ((d.bytes.drop (atOf q).toNat).take (lenOf d q).toNat) }, 0)
      else (L.set o.n.toNat { c with items := splice c.items (atOf o + i).toNat ((d.items.drop (atOf q).toNat).take (lenOf d q).toNat) }, 0)
    | _, _ => (L, 0)
theorem splice_map {α β : Type} (f : α → β) (L : List α) (o : Nat) (cs : List α) : (splice L o cs).map f = splice (L.map f) o (cs.map f) := by
  simp [splice]
theorem splice_flat (L M : List O) (o : Nat) : (splice L o M).flatMap O.cells = splice (L.flatMap O.cells) (o * 6) (M.flatMap O.cells) := by
  have hd : ∀ (L : List O) (p : Nat), (L.drop p).flatMap O.cells = (L.flatMap O.cells).drop (p * 6) := fun L p => by
    have := flat_drop_take L p L.length
    rw [List.take_of_length_le (by simp)] at this
    rw [this, List.take_of_length_le]
    rw [List.length_drop, flat_length O.cells 6 cells_length]; omega
  have ht : ∀ (L : List O) (p : Nat), (L.take p).flatMap O.cells = (L.flatMap O.cells).take (p * 6) := fun L p => by
    have := flat_drop_take L 0 p
    simpa using this
  unfold splice
  rw [List.flatMap_append, List.flatMap_append, ht, hd, flat_length O.cells 6 cells_length, Nat.add_mul]

end Go.Proofs.Ytgllgemjfpiogaa
