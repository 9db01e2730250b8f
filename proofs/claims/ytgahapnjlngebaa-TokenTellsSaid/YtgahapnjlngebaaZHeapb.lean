/- Hset, Hadd, Hmk, Hpt -/
import Derived.Test.YtgahapnjlngebaaZHeapa
import Derived.Maps.AppendAt
import Derived.Deep.AppendLies
import Derived.Deep.RegionLaw
import Derived.Deep.DeepCutAuto
/- Walk: (*Heap).Set. -/
namespace Go.Proofs.Ytgahapnjlngebaa
open Go.RowKit
theorem free_at {w : World} {g : Nat} {cur : Array Value} {T : TypeId} {fz : Nat × Nat} (h : w.heap[g]? = some (.cells cur T fz)) (hf : fz = (0, 0) ∨ cur.size ≤ fz.1) (m : Nat) (hm : m < cur.size) :
    ∀ W, Chg NoB w W → W.frozen? ⟨g, m, none⟩ = false := fun W hc => by
  have := hc.blk h id
  obtain ⟨lo, hi⟩ := fz
  simp only [World.frozen?, this]
  rcases hf with e | e
  · simp at e; obtain ⟨rfl, rfl⟩ := e; simp
  · simp only at e; simp; omega

end Go.Proofs.Ytgahapnjlngebaa
/- Walk: (*Heap).add. -/
namespace Go.Proofs.Ytgahapnjlngebaa
open Go.RowKit
theorem cells_new (w : World) (cs : List Value) (t : TypeId) : ∀ j u, cs[j]? = some u → (w.alloc (.cells cs.toArray t)).cell? ((⟨w.heap.size, 0, none⟩ : Addr).add j) = some u := by
  intro j u hj
  have : (⟨w.heap.size, 0, none⟩ : Addr).add j = ⟨w.heap.size, j, none⟩ := by
    unfold Addr.add; split <;> simp_all
  rw [this, World.cell?_alloc_new]
  simpa using hj

theorem one2 (u v : Option Addr) : ∀ x ∈ [Value.pointer u, Value.pointer v], x.oneCell' = true := by simp [Value.oneCell']
theorem Hid.mk' {p : Prop} (h : p) : Hid p := h

def addE (L : List C) (c : C) : Int := if 2000 ≤ L.length ∨ 40000 - used L < c.size then 5 else 0
def objOf (L : List C) (c : C) : O := ⟨c.kind, false, L.length, 0, if c.kind = 10 then 0 else c.size, ⟨#[]⟩⟩

end Go.Proofs.Ytgahapnjlngebaa
/- Walks: New, Array, String, Dict of a heap. -/
namespace Go.Proofs.Ytgahapnjlngebaa
open Go.RowKit
/-- What Array, String, Dict answer, and leave. -/
def makeH (L : List C) (c : C) : List C × O × Int := if addE L c ≠ 0 then (L, O.nil, 5) else (L ++ [c], objOf L c, 0)
def arrayH (L : List C) (n : Int) : List C × O × Int :=
  if 40000 < n then (L, O.nil, 5) else if n < 0 then (L, O.nil, 2) else makeH L ⟨false, false, false, List.replicate n.toNat nullO, []⟩
def stringH (L : List C) (b : ByteArray) : List C × O × Int :=
  if 40000 < b.size then (L, O.nil, 5) else makeH L ⟨true, false, false, [], b.toList⟩
def dictH (L : List C) (n : Int) : List C × O × Int :=
  if n < 0 ∨ 1000 < n then (L, O.nil, 2) else makeH L ⟨false, true, false, ⟨3, false, 0, 0, 0, ⟨#[]⟩⟩ :: List.replicate (2 * n.toNat) nullO, []⟩

end Go.Proofs.Ytgahapnjlngebaa
/- Walks: Part, Bytes, Lock. -/
namespace Go.Proofs.Ytgahapnjlngebaa
open Go.RowKit
def partH (L : List C) (o : O) (i n : Int) : O × Int :=
  if findE L o ≠ 0 then (O.nil, findE L o)
  else if o.kind = 10 then (O.nil, 6)
  else if ¬ (0 ≤ i ∧ 0 ≤ n ∧ i ≤ o.len ∧ n ≤ o.len - i) then (O.nil, 12)
  else ({ o with pos := o.pos + i, len := n }, 0)

end Go.Proofs.Ytgahapnjlngebaa
