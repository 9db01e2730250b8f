/- Become: plain facts. -/
import Derived.Test.YtgllgemjfpiogaaHit
namespace Go.Proofs.Ytgllgemjfpiogaa
open Go.RowKit

theorem owns_base {w : World} {B B' : Nat} {T : TypeId} {size : Nat} {v : Value} {n : Nat} {xs : List Value} (h : w.ownsRow B T size v n xs) (hB : B' ≤ B) : w.ownsRow B' T size v n xs := by
  refine ⟨h.1, ?_⟩
  rcases h.2 with hn | ⟨g, cap, cur, h1, h2, rest⟩
  · exact .inl hn
  · exact .inr ⟨g, cap, cur, h1, Nat.le_trans hB h2, rest⟩
theorem owns_chgB {w w' : World} {S : Nat → Prop} {B : Nat} {T : TypeId} {size : Nat} {v : Value} {n : Nat} {xs : List Value} (h : w.ownsRow B T size v n xs) (hc : Chg S w w') (hS : ∀ b ∈ v.ownBlock.toList, ¬ S b) : w'.ownsRow B T size v n xs := by
  refine ⟨h.1, ?_⟩
  rcases h.2 with hn | ⟨g, cap, cur, rfl, h1, h2, rest⟩
  · exact .inl hn
  · exact .inr ⟨g, cap, cur, rfl, h1, hc.blk h2 (hS g (by simp [Value.ownBlock])), rest⟩
theorem owns_ge {w : World} {B : Nat} {T : TypeId} {size : Nat} {v : Value} {n : Nat} {xs : List Value} (h : w.ownsRow B T size v n xs) : ∀ b ∈ v.ownBlock.toList, B ≤ b ∧ b < w.heap.size := by
  intro b hb
  have := h.lt b (by simpa using hb)
  exact this

/-- After k rounds of Become: v owns the new cells M. -/
def BecInv (w : World) (G : List C) (k : Nat) (v : Value) (wr : World) : Prop :=
  ∃ M : List PC, M.map PC.c = G.take k ∧ M.length = k ∧ wr.ownsRow w.heap.size 94 2 v k (M.flatMap PC.ptrs) ∧ (∀ x ∈ M, x.ok wr) ∧
    (v.ownBlock.toList ++ M.flatMap PC.foot).Nodup ∧ (∀ b ∈ M.flatMap PC.foot, w.heap.size ≤ b) ∧ Chg NoB w wr

theorem BecInv.start (w : World) (G : List C) : BecInv w G 0 (.slice none 0 0) w :=
  ⟨[], by simp, rfl, World.ownsRow_nil _ _ _ _, by simp, by simp [Value.ownBlock], by simp, Chg.refl _ _⟩

theorem BecInv.step {w wr w' : World} {G : List C} {k : Nat} {v v' : Value} {M : List PC} {x : PC}
    (h1 : M.map PC.c = G.take k) (h2 : M.length = k) (hk : k < G.length) (h3 : wr.ownsRow w.heap.size 94 2 v k (M.flatMap PC.ptrs)) (h4 : ∀ x ∈ M, x.ok wr)
    (h5 : (v.ownBlock.toList ++ M.flatMap PC.foot).Nodup) (h6 : ∀ b ∈ M.flatMap PC.foot, w.heap.size ≤ b) (h7 : Chg NoB w wr)
    (c : Chg (· ∈ v.ownBlock.toList) wr w') (hx : x.ok w') (hxc : x.c = G[k]) (hxf : ∀ b ∈ x.foot, wr.heap.size ≤ b) (hxn : x.foot.Nodup)
    (hown : w'.ownsRow w.heap.size 94 2 v' (k + 1) (M.flatMap PC.ptrs ++ x.ptrs)) (hv : v'.ownBlock = v.ownBlock ∨ ∃ n, v'.ownBlock = some n ∧ wr.heap.size ≤ n ∧ n ∉ x.foot) : BecInv w G (k + 1) v' w' := by
  have hlt : ∀ y ∈ M, ∀ b ∈ y.foot, b < wr.heap.size := fun y hy b hb => (h4 y hy).lt b hb
  have hvl := owns_ge h3
  simp only [List.nodup_append, List.mem_flatMap] at h5
  obtain ⟨n1, n2, n3⟩ := h5
  refine ⟨M ++ [x], ?_, by simp [h2], by simpa using hown, ?_, ?_, ?_, (h7.trans' c (fun i hi e => by have := (hvl i e).1; omega))⟩
  · rw [List.map_append, h1, List.take_add_one, List.getElem?_eq_getElem hk, ← hxc]; rfl
  · intro y hy
    rcases List.mem_append.1 hy with hy | hy
    · exact (h4 y hy).chg c (fun b hb e => n3 b e b ⟨y, hy, hb⟩ rfl)
    · simp only [List.mem_singleton] at hy; subst hy; exact hx
  · simp only [List.flatMap_append, List.flatMap_cons, List.flatMap_nil, List.append_nil, List.nodup_append, List.mem_append, List.mem_flatMap]
    refine ⟨?_, ⟨n2, hxn, ?_⟩, ?_⟩
    · rcases hv with hv | ⟨n, hv, _⟩
      · rw [hv]; exact n1
      · rw [hv]; simp
    · rintro b ⟨y, hy, hb⟩ b' hb' rfl
      have := hlt y hy b hb; have := hxf b hb'; omega
    · rintro b hb b' hb' rfl
      rcases hv with hv | ⟨n, hv, hn1, hn2⟩
      · rw [hv] at hb
        rcases hb' with ⟨y, hy, hb'⟩ | hb'
        · exact n3 b hb b ⟨y, hy, hb'⟩ rfl
        · have := (hvl b hb).2; have := hxf b hb'; omega
      · rw [hv] at hb
        simp only [Option.toList, List.mem_singleton] at hb
        subst hb
        rcases hb' with ⟨y, hy, hb'⟩ | hb'
        · have := hlt y hy b hb'; omega
        · exact hn2 hb'
  · intro b hb
    simp only [List.flatMap_append, List.flatMap_cons, List.flatMap_nil, List.append_nil, List.mem_append] at hb
    rcases hb with hb | hb
    · exact h6 b hb
    · have := hxf b hb; have := h7.size; omega
end Go.Proofs.Ytgllgemjfpiogaa
