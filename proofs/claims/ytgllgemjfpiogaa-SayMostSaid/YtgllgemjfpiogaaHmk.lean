/- Walks: New, Array, String, Dict of a heap. -/
import Derived.Test.YtgllgemjfpiogaaHadd
import Derived.Test.YtgllgemjfpiogaaHnul
import Derived.Test.YtgllgemjfpiogaaStr
namespace Go.Proofs.Ytgllgemjfpiogaa
open Go.RowKit

theorem new_any (w : World) :
   Calls Try.prog 10 #[] w fun e w' => e = .returned (ptr w.heap.size) ∧ w' = w.alloc (.cells #[.slice none 0 0, .int .i64 0] 74) := by
  go_enter Try.func10, Try.ntmps10
  go_wp2
  go_ret
  exact ⟨rfl, rfl⟩
/-- A new heap is an empty one. -/
theorem HeapRep.new (w : World) : HeapRep (w.alloc (.cells #[.slice none 0 0, .int .i64 0] 74)) ⟨w.heap.size, .slice none 0 0, []⟩ where
  head := blk_new w _
  own := World.ownsRow_nil _ _ _ _
  cell := fun x hx => by simp at hx
  apart := by simp [HS.foot, Value.ownBlock]
  most := by simp
  room := by simp [used]

theorem Next.of_add {w w1 w2 : World} {h : HS} {x : PC} (H : HeapRep w h) (X1 : Chg NoB w w1) (hx : ∀ b ∈ x.foot, w.heap.size < b ∧ b < w1.heap.size) (h1 : w.heap.size < w1.heap.size)
    (hP : ∃ h' : HS, h'.hp = h.hp ∧ h'.L = h.L ++ [x] ∧ HeapRep w2 h' ∧ Chg (· ∈ h.foot) w1 w2 ∧ ∀ b ∈ h'.foot, b ∈ h.foot ∨ b ∈ x.foot ∨ w1.heap.size ≤ b) :
    ∀ W, Chg (· = w.heap.size) w2 W → Next w h W (h.l ++ [x.c]) := by
  obtain ⟨h', e1, e2, H2, X2, F⟩ := hP
  intro W hW
  have hlt := H.lt
  refine ⟨h', e1, by simp [HS.l, e2], H2.chg hW (fun b hb e => ?_), ((X1.mono (fun _ _ e => e.elim)).trans X2).trans' hW (fun i hi e => by omega), fun b hb => ?_⟩
  · rcases F b hb with q | q | q
    · have := hlt b q; omega
    · have := (hx b q).1; omega
    · omega
  · rcases F b hb with q | q | q
    · exact .inl q
    · exact .inr (by have := (hx b q).1; omega)
    · exact .inr (by omega)

/-- What Array, String, Dict answer, and leave. -/
def makeH (L : List C) (c : C) : List C × O × Int := if addE L c ≠ 0 then (L, O.nil, 5) else (L ++ [c], objOf L c, 0)
def arrayH (L : List C) (n : Int) : List C × O × Int :=
  if 40000 < n then (L, O.nil, 5) else if n < 0 then (L, O.nil, 2) else makeH L ⟨false, false, false, List.replicate n.toNat nullO, []⟩
def stringH (L : List C) (b : ByteArray) : List C × O × Int :=
  if 40000 < b.size then (L, O.nil, 5) else makeH L ⟨true, false, false, [], b.toList⟩
def dictH (L : List C) (n : Int) : List C × O × Int :=
  if n < 0 ∨ 1000 < n then (L, O.nil, 2) else makeH L ⟨false, true, false, ⟨3, false, 0, 0, 0, ⟨#[]⟩⟩ :: List.replicate (2 * n.toNat) nullO, []⟩

end Go.Proofs.Ytgllgemjfpiogaa
