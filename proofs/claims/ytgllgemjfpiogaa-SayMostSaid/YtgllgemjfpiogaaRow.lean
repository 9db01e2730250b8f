/- A slice that a law made by appending, among the boxes. -/
import Derived.Test.YtgllgemjfpiogaaLat
namespace Go.Proofs.Ytgllgemjfpiogaa
open Go.RowKit

theorem Ats.renewG {w0 w w' : World} {M : List (Nat × List C)} {K : List (Nat × Obj)} {b b' : Nat} {o o' : Obj} (A : Ats w0 w M ((b, o) :: K)) (X : Chg (· = b) w w') (hb : w'.heap[b']? = some o') (hg : b' = b ∨ w.heap.size ≤ b') : Ats w0 w' M ((b', o') :: K) := by
  obtain ⟨h, h1, H, X0, D, F, k, n⟩ := A
  obtain ⟨kb, kn, kg⟩ := k _ (List.mem_cons_self ..)
  simp only at kb kn kg
  have lt := reps_lt H
  have lk : ∀ q ∈ K, q.1 < w.heap.size := fun q hq => blk_lt (k q (List.mem_cons_of_mem _ hq)).1
  rw [List.map_cons, List.nodup_cons] at n
  refine ⟨h, h1, fun x hx => (H x hx).chg X fun c hc e => kn (List.mem_flatMap.2 ⟨x, hx, e ▸ hc⟩), X0.trans' X (fun i hi e => by omega), D, F, fun q hq => ?_, ?_⟩
  · rcases List.mem_cons.1 hq with rfl | hq
    · refine ⟨hb, fun hf => ?_, ?_⟩
      · rcases hg with rfl | hg
        · exact kn hf
        · have := lt _ hf; simp only at this; omega
      · rcases hg with rfl | hg
        · exact kg
        · exact Nat.le_trans X0.size hg
    · refine ⟨X.blk (k q (List.mem_cons_of_mem _ hq)).1 fun e => n.1 (List.mem_map.2 ⟨q, hq, e⟩), (k q (List.mem_cons_of_mem _ hq)).2⟩
  · rw [List.map_cons, List.nodup_cons]
    refine ⟨fun hm => ?_, n.2⟩
    obtain ⟨q, hq, e⟩ := List.mem_map.1 hm
    rcases hg with rfl | hg
    · exact n.1 (List.mem_map.2 ⟨q, hq, e⟩)
    · have := lk q hq; simp only at e; omega

/-- A slice made by appending, and its block: R. -/
def RowG (T : TypeId) (sz : Nat) (R : List (Nat × Obj)) (v : Value) (n : Nat) (xs : List Value) : Prop :=
  (v = .slice none 0 0 ∧ n = 0 ∧ xs = [] ∧ R = []) ∨
  ∃ g cap cur, v = .slice (some ⟨g, 0, none⟩) n cap ∧ R = [(g, .cells cur T)] ∧ n ≤ cap ∧ cap ≤ maxLen ∧ cur.size = cap * sz ∧ cur.toList.take (n * sz) = xs ∧ xs.length = n * sz
theorem Ats.ownsG {w0 w : World} {M : List (Nat × List C)} {K R : List (Nat × Obj)} {T : TypeId} {sz : Nat} {v : Value} {n : Nat} {xs : List Value} (A : Ats w0 w M (R ++ K)) (h : RowG T sz R v n xs) : w.ownsRow w0.heap.size T sz v n xs := by
  rcases h with ⟨rfl, rfl, rfl, rfl⟩ | ⟨g, cap, cur, rfl, rfl, h1, h2, h3, h4, h5⟩
  · exact World.ownsRow_nil _ _ _ _
  · exact ⟨h5, .inr ⟨g, cap, cur, rfl, A.box_ge (g, .cells cur T) (List.mem_cons_self ..), A.box (g, .cells cur T) (List.mem_cons_self ..), h1, h2, h3, h4⟩⟩
theorem Ats.grownG {w0 w w' : World} {M : List (Nat × List C)} {K R : List (Nat × Obj)} {T : TypeId} {sz : Nat} {v v' : Value} {n m : Nat} {xs xs' : List Value} (A : Ats w0 w M (R ++ K)) (h : RowG T sz R v n xs)
    (hown : w'.ownsRow w0.heap.size T sz v' (n + m) xs') (hgr : w.grownBy w' v.ownBlock) (hob : v'.ownBlock = v.ownBlock ∨ v'.ownBlock = some w.heap.size) (hm : 0 < m) :
    ∃ R', RowG T sz R' v' (n + m) xs' ∧ Ats w0 w' M (R' ++ K) := by
  obtain ⟨hl, ⟨rfl, h0⟩ | ⟨g', cap', cur', rfl, hg0, hg', c1, c2, c3, c4⟩⟩ := hown
  · omega
  refine ⟨[(g', .cells cur' T)], .inr ⟨g', cap', cur', rfl, rfl, c1, c2, c3, c4, hl⟩, ?_⟩
  rcases h with ⟨rfl, rfl, rfl, rfl⟩ | ⟨g, cap, cur, rfl, rfl, -⟩
  · have C1 : Chg NoB w w' := Chg.grown (Chg.refl NoB w) hgr (fun k hk => by simp [Value.ownBlock] at hk)
    refine A.got C1 hg' ?_
    rcases hob with e | e
    · simp [Value.ownBlock] at e
    · simp [Value.ownBlock] at e; omega
  · have C1 : Chg (· = g) w w' := Chg.grown (Chg.refl (· = g) w) hgr (fun k hk => by simp [Value.ownBlock] at hk; exact .inl hk.symm)
    refine Ats.renewG A C1 hg' ?_
    rcases hob with e | e
    · simp [Value.ownBlock] at e; exact .inl e
    · simp [Value.ownBlock] at e; exact .inr (by omega)
theorem RowG.shape {T : TypeId} {sz : Nat} {R : List (Nat × Obj)} {v : Value} {n : Nat} {xs : List Value} (h : RowG T sz R v n xs) (hn : 0 < n) :
    ∃ g cap cur, v = .slice (some ⟨g, 0, none⟩) n cap ∧ R = [(g, .cells cur T)] ∧ ∀ i, i < n * sz → cur[i]? = xs[i]? := by
  rcases h with ⟨-, h0, -⟩ | ⟨g, cap, cur, h1, h2, -, -, -, h3, -⟩
  · omega
  · exact ⟨g, cap, cur, h1, h2, fun i hi => by rw [← h3, List.getElem?_take_of_lt hi, Array.getElem?_toList]⟩
end Go.Proofs.Ytgllgemjfpiogaa
