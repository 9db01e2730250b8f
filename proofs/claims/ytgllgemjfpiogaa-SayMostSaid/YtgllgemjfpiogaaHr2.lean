/- Walks: (*Heap).May. -/
import Derived.Test.YtgllgemjfpiogaaHr1
import Derived.Test.YtgllgemjfpiogaaMay
namespace Go.Proofs.Ytgllgemjfpiogaa
open Go.RowKit

/-- The place of a cell's two pointers in the row of a heap's cells. -/
theorem PC.ptrs_eq (x : PC) : ∃ u v, x.ptrs = [.pointer u, .pointer v] := by
  unfold PC.ptrs; split <;> exact ⟨_, _, rfl⟩
theorem HeapRep.at' {w : World} {hp : Nat} {slv : Value} {L : List PC} (H : HeapRep w ⟨hp, slv, L⟩) {i : Nat} (hi : i < L.length) :
    ∃ g cap cur fz u v, slv = .slice (some ⟨g, 0, none⟩) L.length cap ∧ w.heap[g]? = some (.cells cur 94 fz) ∧ cur[i * 2]? = some (.pointer u) ∧ cur[i * 2 + 1]? = some (.pointer v) ∧ L[i].ptrs = [.pointer u, .pointer v] ∧ g < w.heap.size := by
  obtain ⟨g, cap, cur, fz, h1, h2, h3, h4, h5, h6, h7⟩ := H.row.some' (by show 0 < L.length; omega)
  obtain ⟨u, v, hp2⟩ := L[i].ptrs_eq
  refine ⟨g, cap, cur, fz, u, v, h1, h2, ?_, ?_, hp2, blk_lt h2⟩
  · rw [h7 _ (by show i * 2 < L.length * 2; omega)]
    have := flat_get PC.ptrs 2 ptrs_length 0 (by omega) L i
    simp only [Nat.add_zero] at this
    show (L.flatMap PC.ptrs)[i * 2]? = _
    rw [this, List.getElem?_eq_getElem hi]; simp [hp2]
  · rw [h7 _ (by show i * 2 + 1 < L.length * 2; omega)]
    show (L.flatMap PC.ptrs)[i * 2 + 1]? = _
    rw [flat_get PC.ptrs 2 ptrs_length 1 (by omega) L i, List.getElem?_eq_getElem hi]; simp [hp2]

theorem HeapRep.shape {w : World} {hp : Nat} {slv : Value} {L : List PC} (H : HeapRep w ⟨hp, slv, L⟩) : ∃ a cap, slv = .slice a L.length cap ∧ L.length ≤ cap := Row.shape H.row

theorem mayO_held {o : O} (hm : mayO o = true) (hh : held o = true) : 0 ≤ o.n ∧ o.n ≤ 40000 ∧ 0 ≤ o.pos ∧ o.pos ≤ 40000 ∧ 0 ≤ o.len ∧ o.len ≤ 40000 := by
  obtain ⟨k, ex, n, a, l, s⟩ := o
  simp only [held, Bool.or_eq_true, beq_iff_eq] at hh
  simp only [mayO, Bool.and_eq_true, eqO_iff, bareO, O.nil] at hm
  obtain ⟨h1, h2⟩ := hm
  rcases hh with (rfl | rfl) | rfl <;> simp at h1 h2 ⊢ <;> omega

end Go.Proofs.Ytgllgemjfpiogaa
