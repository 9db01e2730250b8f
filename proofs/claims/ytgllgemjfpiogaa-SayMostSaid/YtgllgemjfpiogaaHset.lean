/- Walk: (*Heap).Set. -/
import Derived.Test.YtgllgemjfpiogaaHg
import Derived.Test.YtgllgemjfpiogaaHup
namespace Go.Proofs.Ytgllgemjfpiogaa
open Go.RowKit

theorem Next.drew {w w' : World} {h : HS} {L : List C} (n : Next w h w' L) : Next w h w'.drew L := by
  obtain ⟨h', h1, h2, h3, h4, h5⟩ := n
  exact ⟨h', h1, h2, h3.pure (Chg.refl _ _).drew, h4.drew, h5⟩
theorem Next.pure {w w' w'' : World} {h : HS} {L : List C} (n : Next w h w' L) (X : Chg NoB w' w'') : Next w h w'' L := by
  obtain ⟨h', h1, h2, h3, h4, h5⟩ := n
  exact ⟨h', h1, h2, h3.pure X, h4.pure X, h5⟩
theorem free_at {w : World} {g : Nat} {cur : Array Value} {T : TypeId} {fz : Nat × Nat} (h : w.heap[g]? = some (.cells cur T fz)) (hf : fz = (0, 0) ∨ cur.size ≤ fz.1) (m : Nat) (hm : m < cur.size) :
    ∀ W, Chg NoB w W → W.frozen? ⟨g, m, none⟩ = false := fun W hc => by
  have := hc.blk h id
  obtain ⟨lo, hi⟩ := fz
  simp only [World.frozen?, this]
  rcases hf with e | e
  · simp at e; obtain ⟨rfl, rfl⟩ := e; simp
  · simp only at e; simp; omega

end Go.Proofs.Ytgllgemjfpiogaa
