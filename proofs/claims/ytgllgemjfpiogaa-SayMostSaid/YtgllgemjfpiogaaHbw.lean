/- Walk: Become, Copy. -/
import Derived.Test.YtgllgemjfpiogaaHbec
namespace Go.Proofs.Ytgllgemjfpiogaa
open Go.RowKit

theorem Try.infoByte : (Try.prog.info? 5).map (fun i => (i.zero, i.size, i.bytes)) = some (some (.int .u8 0), 1, 1) := by kernel_rfl
theorem vu8_one (l : List UInt8) : ∀ u ∈ l.map vu8, u.oneCell' = true := by
  intro u hu
  obtain ⟨b, _, rfl⟩ := List.mem_map.1 hu
  rfl
theorem cells_newS (w : World) (a : Addr) (v : Value) (cs : List Value) (t : TypeId) : ∀ j u, cs[j]? = some u → ((w.setCell a v).alloc (.cells cs.toArray t)).cell? ((⟨w.heap.size, 0, none⟩ : Addr).add j) = some u := by
  have := cells_new (w.setCell a v) cs t
  rw [World.size_setCell] at this
  exact this
theorem cells_new2 (w : World) (o o' : Obj) (cs : List Value) (t : TypeId) : ∀ j u, cs[j]? = some u → (((w.alloc o).alloc o').alloc (.cells cs.toArray t)).cell? ((⟨w.heap.size + 1 + 1, 0, none⟩ : Addr).add j) = some u := by
  have := cells_new ((w.alloc o).alloc o') cs t
  simpa using this
theorem Row.of_nil {w w' : World} {T : TypeId} {size n : Nat} {xs : List Value} (h : Row w T size (.slice none 0 0) n xs) : Row w' T size (.slice none 0 0) n xs := by
  refine ⟨h.1, ?_⟩
  rcases h.2 with h | ⟨g, cap, cur, fz, e, _⟩
  · exact .inl h
  · simp at e
/-- What a slice's source holds, at every world to come. -/
theorem Row.src {w1 : World} {T : TypeId} {size : Nat} {v : Value} {n : Nat} {xs : List Value} (h : Row w1 T size v n xs) :
    (v = .slice none 0 0 ∧ n = 0) ∨ ∃ ad cap, v = .slice (some ad) n cap ∧ ∀ W, Chg NoB w1 W → ∀ j u, xs[j]? = some u → W.cell? (ad.add j) = some u := by
  rcases h.2 with ⟨rfl, hn⟩ | ⟨g, cap, cur, fz, rfl, hcur, hfz, hnc, hcm, hcs, htk⟩
  · exact .inl ⟨rfl, hn⟩
  · refine .inr ⟨_, _, rfl, fun W hW j u hj => ?_⟩
    have hlt : j < n * size := by rw [← h.1]; exact (List.getElem?_eq_some_iff.1 hj).1
    rw [add_one, cells_of (hW.blk hcur id), ← Array.getElem?_toList]
    have : cur.toList[j]? = (cur.toList.take (n * size))[j]? := by rw [List.getElem?_take, if_pos hlt]
    rw [this, htk]; exact hj

end Go.Proofs.Ytgllgemjfpiogaa
