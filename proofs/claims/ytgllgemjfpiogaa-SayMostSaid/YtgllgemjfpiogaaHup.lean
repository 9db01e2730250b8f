/- One cell of a heap is turned in place: plain facts. -/
import Derived.Test.YtgllgemjfpiogaaHeap
namespace Go.Proofs.Ytgllgemjfpiogaa
open Go.RowKit

theorem foot_set (hp : Nat) (slv : Value) (L : List PC) (N : Nat) (x : PC) (hN : N < L.length) (h1 : x.p = L[N].p) (h2 : x.sl = L[N].sl) :
    HS.foot ⟨hp, slv, L.set N x⟩ = HS.foot ⟨hp, slv, L⟩ := by
  have hx : x.foot = L[N].foot := by simp [PC.foot, h1, h2]
  have : ∀ (L : List PC) (N : Nat) (hN : N < L.length), x.foot = L[N].foot → (L.set N x).flatMap PC.foot = L.flatMap PC.foot := by
    intro L
    induction L with
    | nil => intro N hN; simp at hN
    | cons y L ih =>
      intro N hN hx
      cases N with
      | zero => simp only [List.getElem_cons_zero] at hx; simp [List.set, hx]
      | succ N => simp only [List.getElem_cons_succ] at hx; simp only [List.set, List.flatMap_cons]; rw [ih N (by simpa using hN) hx]
  simp only [HS.foot]
  rw [this L N hN hx]

theorem ptrs_set (L : List PC) (N : Nat) (x : PC) (hN : N < L.length) (hx : x.ptrs = L[N].ptrs) : (L.set N x).flatMap PC.ptrs = L.flatMap PC.ptrs := by
  induction L generalizing N with
  | nil => simp at hN
  | cons y L ih =>
    cases N with
    | zero => simp only [List.getElem_cons_zero] at hx; simp [List.set, hx]
    | succ N => simp only [List.getElem_cons_succ] at hx; simp only [List.set, List.flatMap_cons]; rw [ih N (by simpa using hN) hx]

theorem sum_set (L : List Nat) (N : Nat) (hN : N < L.length) : (L.set N L[N]).sum = L.sum := by simp

theorem HeapRep.apart_cells {w : World} {hp : Nat} {slv : Value} {L : List PC} (H : HeapRep w ⟨hp, slv, L⟩) {i j : Nat} (hi : i < L.length) (hj : j < L.length) (hij : i ≠ j) : ∀ b ∈ L[i].foot, b ∉ L[j].foot := by
  have h1 : (L.flatMap PC.foot).Nodup := by
    have := H.apart
    simp only [HS.foot, List.nodup_cons, List.nodup_append] at this
    exact this.2.2.1
  have h2 := (List.pairwise_flatMap.1 h1).2
  intro b hb hb'
  rcases Nat.lt_or_gt_of_ne hij with h | h
  · exact (List.pairwise_iff_getElem.1 h2 i j hi hj h) b hb b hb' rfl
  · exact (List.pairwise_iff_getElem.1 h2 j i hj hi h) b hb' b hb rfl
theorem HeapRep.apart_head {w : World} {hp : Nat} {slv : Value} {L : List PC} (H : HeapRep w ⟨hp, slv, L⟩) {i : Nat} (hi : i < L.length) : hp ∉ L[i].foot ∧ ∀ b ∈ slv.ownBlock.toList, b ∉ L[i].foot := by
  have := H.apart
  simp only [HS.foot, List.nodup_cons, List.nodup_append, List.mem_append, List.mem_flatMap, not_or, not_exists, not_and] at this
  refine ⟨fun h => this.1.2 _ (List.getElem_mem hi) h, fun b hb h => ?_⟩
  exact this.2.2.2 b hb b ⟨_, List.getElem_mem hi, h⟩ rfl

/-- One cell, in its place, has become another of the same size. -/
theorem HeapRep.update {w w' : World} {hp : Nat} {slv : Value} {L : List PC} (H : HeapRep w ⟨hp, slv, L⟩) {N : Nat} (hN : N < L.length) (x : PC)
    (hc : Chg (· ∈ L[N].foot) w w') (hok : x.ok w') (h1 : x.p = L[N].p) (h2 : x.sl = L[N].sl) (h3 : x.c.text = L[N].c.text) (h4 : x.c.size = L[N].c.size) :
    HeapRep w' ⟨hp, slv, L.set N x⟩ := by
  have hu : used ((L.set N x).map PC.c) = used (L.map PC.c) := by
    unfold used
    congr 1
    apply List.ext_getElem?
    intro i
    simp only [List.getElem?_map, List.getElem?_set]
    split
    · rename_i e; subst e
      simp [hN, h4]
    · rfl
  have hptr : x.ptrs = L[N].ptrs := by simp [PC.ptrs, h1, h3]
  obtain ⟨a1, a2⟩ := H.apart_head hN
  refine ⟨?_, ?_, ?_, ?_, ?_, ?_⟩
  · have := hc.blk H.head a1
    simp only [HS.l] at this ⊢
    rw [hu]; exact this
  · have := owns_chg H.own hc a2
    simp only [List.length_set] at this ⊢
    rw [ptrs_set L N x hN hptr]; exact this
  · intro y hy
    obtain ⟨i, hi, rfl⟩ := List.mem_iff_getElem.1 hy
    simp only [List.length_set] at hi
    by_cases e : N = i
    · subst e; simpa using hok
    · simp only [List.getElem_set, e, if_false]
      exact (H.cell _ (List.getElem_mem hi)).chg hc (fun b hb hb' => H.apart_cells hi hN (fun q => e q.symm) b hb hb')
  · rw [foot_set hp slv L N x hN h1 h2]; exact H.apart
  · have := H.most; simpa using this
  · have := H.room; simp only [HS.l] at this ⊢; rw [hu]; exact this

theorem Row.set1 {w : World} {T : TypeId} {g cap : Nat} {n : Nat} {xs : List Value} (h : Row w T 1 (.slice (some ⟨g, 0, none⟩) n cap) n xs) {j : Nat} (_hj : j < n) (v : Value) :
    Row (w.setCell ⟨g, j, none⟩ v) T 1 (.slice (some ⟨g, 0, none⟩) n cap) n (xs.set j v) := by
  refine ⟨by simpa using h.1, .inr ?_⟩
  rcases h.2 with ⟨e, _⟩ | ⟨g', cap', cur, fz, e, h2, h3, h4, h5, h6, h7⟩
  · simp at e
  · simp at e
    obtain ⟨rfl, rfl⟩ := e
    refine ⟨g, cap, _, fz, rfl, blk_set h2 j v, ?_, h4, h5, by simpa using h6, ?_⟩
    · simpa using h3
    · rw [← h7, Array.toList_setIfInBounds, List.take_set]

theorem flat_set (f : O → List Value) (hf : ∀ x, (f x).length = 6) (L : List O) (j : Nat) (o : O) (hj : j < L.length) :
    (L.set j o).flatMap f = (((((((L.flatMap f).set (j * 6) ((f o).getD 0 undef)).set (j * 6 + 1) ((f o).getD 1 undef)).set (j * 6 + 2) ((f o).getD 2 undef)).set (j * 6 + 3) ((f o).getD 3 undef)).set (j * 6 + 4) ((f o).getD 4 undef)).set (j * 6 + 5) ((f o).getD 5 undef)) := by
  apply List.ext_getElem?
  intro m
  have hm : m = m / 6 * 6 + m % 6 := by omega
  have hr : m % 6 < 6 := Nat.mod_lt _ (by omega)
  generalize m / 6 = q at *
  generalize m % 6 = r at *
  subst hm
  have hl := flat_length f 6 hf L
  have hfo := hf o
  rw [flat_get f 6 hf r hr]
  simp only [List.getElem?_set, List.length_set, hl]
  by_cases e : j = q
  · subst e
    have e' : j = j := rfl
    have c : r = 0 ∨ r = 1 ∨ r = 2 ∨ r = 3 ∨ r = 4 ∨ r = 5 := by omega
    have hq : ∀ k, k < 6 → j * 6 + k < L.length * 6 := by intro k hk; omega
    have g : ∀ k, k < 6 → (f o)[k]? = some ((f o).getD k undef) := by intro k hk; simp [hfo, hk]
    rw [if_pos e', if_pos hj]
    simp only [Option.bind_some]
    rw [g r hr]
    rcases c with rfl | rfl | rfl | rfl | rfl | rfl
    · simp [show j * 6 < L.length * 6 by omega]
    · simp [hq]
    · simp [hq]
    · simp [hq]
    · simp [hq]
    · simp [hq]
  · have n0 : ¬ j * 6 = q * 6 + r := by omega
    have n1 : ¬ j * 6 + 1 = q * 6 + r := by omega
    have n2 : ¬ j * 6 + 2 = q * 6 + r := by omega
    have n3 : ¬ j * 6 + 3 = q * 6 + r := by omega
    have n4 : ¬ j * 6 + 4 = q * 6 + r := by omega
    have n5 : ¬ j * 6 + 5 = q * 6 + r := by omega
    simp only [e, n0, n1, n2, n3, n4, n5, if_false]
    rw [flat_get f 6 hf r hr]

/-- The world behind the six stores of an object. -/
abbrev put6 (w : World) (g m : Nat) (o : O) : World :=
  (((((w.setCell ⟨g, m, none⟩ (.int .i64 o.kind)).setCell ⟨g, m + 1, none⟩ (.bool o.exec)).setCell ⟨g, m + 2, none⟩ (.int .i64 o.n)).setCell ⟨g, m + 3, none⟩ (.int .i64 o.pos)).setCell ⟨g, m + 4, none⟩ (.int .i64 o.len)).setCell ⟨g, m + 5, none⟩ (.string o.s)

theorem Row.set6 {w : World} {T : TypeId} {g cap : Nat} {L : List O} (h : Row w T 6 (.slice (some ⟨g, 0, none⟩) L.length cap) L.length (L.flatMap O.cells)) {j : Nat} (hj : j < L.length) (o : O) :
    Row (put6 w g (j * 6) o) T 6 (.slice (some ⟨g, 0, none⟩) L.length cap) L.length ((L.set j o).flatMap O.cells) := by
  refine ⟨by rw [flat_length O.cells 6 cells_length]; simp, .inr ?_⟩
  rcases h.2 with ⟨e, _⟩ | ⟨g', cap', cur, fz, e, h2, h3, h4, h5, h6, h7⟩
  · simp at e
  · simp at e
    obtain ⟨rfl, rfl⟩ := e
    refine ⟨g, cap, _, fz, rfl, blk_set (blk_set (blk_set (blk_set (blk_set (blk_set h2 _ _) _ _) _ _) _ _) _ _) _ _, ?_, h4, h5, by simpa using h6, ?_⟩
    · simpa using h3
    · rw [flat_set O.cells cells_length L j o hj, ← h7]
      simp only [Array.toList_setIfInBounds, List.take_set]
      rfl

theorem Chg.one {S : Nat → Prop} {a w : World} (h : Chg S a w) {p : Addr} (hp : S p.block) (u : Value) : Chg S a (w.setCell p u) := h.setCell (.inl hp) u

theorem Next.same {w w' : World} {h : HS} (H : HeapRep w h) (X : Chg NoB w w') : Next w h w' h.l :=
  ⟨h, rfl, rfl, H.pure X, X.mono (fun _ _ e => e.elim), fun _b hb => .inl hb⟩

/-- A byte of a text. -/
theorem Next.byte {w w' : World} {hp : Nat} {slv : Value} {L : List PC} (H : HeapRep w ⟨hp, slv, L⟩) (X : Chg NoB w w') {N : Nat} (hN : N < L.length) (ht : L[N].c.text = true) {g cap j : Nat}
    (hsl : L[N].sl = .slice (some ⟨g, 0, none⟩) L[N].c.bytes.length cap) (hj : j < L[N].c.bytes.length) (b : UInt8) :
    Next w ⟨hp, slv, L⟩ (w'.setCell ⟨g, j, none⟩ (vu8 b)) ((L.map PC.c).set N { L[N].c with bytes := L[N].c.bytes.set j b }) := by
  have H' := H.pure X
  have hg : g ∈ L[N].foot := by simp [PC.foot, hsl, Value.ownBlock]
  have hc : Chg (· ∈ L[N].foot) w' (w'.setCell ⟨g, j, none⟩ (vu8 b)) := (Chg.refl _ _).one hg _
  have hin : ∀ b ∈ L[N].foot, b ∈ HS.foot ⟨hp, slv, L⟩ := fun b hb => by simp only [HS.foot, List.mem_cons, List.mem_append, List.mem_flatMap]; exact .inr (.inr ⟨_, List.getElem_mem hN, hb⟩)
  refine ⟨⟨hp, slv, L.set N { L[N] with c := { L[N].c with bytes := L[N].c.bytes.set j b } }⟩, rfl, by simp [HS.l], H'.update hN _ hc ?_ rfl rfl rfl (by simp [C.size]),
    (X.mono (fun _ _ e => e.elim)).trans (hc.mono (fun i _ hi => hin i hi)), fun i hb => .inl ?_⟩
  · have hok := H'.cell _ (List.getElem_mem hN)
    have hp0 : L[N].p ≠ g := by
      intro e
      have := H.apart
      simp only [HS.foot, List.nodup_cons, List.nodup_append] at this
      have h2 := (List.pairwise_flatMap.1 this.2.2.1).1 _ (List.getElem_mem hN)
      simp only [PC.foot, hsl, Value.ownBlock, Option.toList, List.pairwise_cons, List.mem_singleton] at h2
      exact h2.1 g rfl e
    unfold PC.ok at hok ⊢
    simp only [ht, if_true] at hok ⊢
    obtain ⟨q1, q2, q3⟩ := hok
    refine ⟨blk_set_other q1 hp0 _, ?_, q3⟩
    rw [hsl] at q2 ⊢
    have := q2.set1 hj (vu8 b)
    simp only [List.length_set]
    rw [List.map_set]
    exact this
  · rw [foot_set hp slv L N { L[N] with c := { L[N].c with bytes := L[N].c.bytes.set j b } } hN rfl rfl] at hb; exact hb

/-- An item of a row. -/
theorem Next.item {w w' : World} {hp : Nat} {slv : Value} {L : List PC} (H : HeapRep w ⟨hp, slv, L⟩) (X : Chg NoB w w') {N : Nat} (hN : N < L.length) (ht : L[N].c.text = false) {g cap j : Nat}
    (hsl : L[N].sl = .slice (some ⟨g, 0, none⟩) L[N].c.items.length cap) (hj : j < L[N].c.items.length) (o : O) :
    Next w ⟨hp, slv, L⟩ (put6 w' g (j * 6) o) ((L.map PC.c).set N { L[N].c with items := L[N].c.items.set j o }) := by
  have H' := H.pure X
  have hg : g ∈ L[N].foot := by simp [PC.foot, hsl, Value.ownBlock]
  have hc : Chg (· ∈ L[N].foot) w' (put6 w' g (j * 6) o) := ((((((Chg.refl _ _).one hg _).one hg _).one hg _).one hg _).one hg _).one hg _
  have hin : ∀ b ∈ L[N].foot, b ∈ HS.foot ⟨hp, slv, L⟩ := fun b hb => by simp only [HS.foot, List.mem_cons, List.mem_append, List.mem_flatMap]; exact .inr (.inr ⟨_, List.getElem_mem hN, hb⟩)
  refine ⟨⟨hp, slv, L.set N { L[N] with c := { L[N].c with items := L[N].c.items.set j o } }⟩, rfl, by simp [HS.l], H'.update hN _ hc ?_ rfl rfl rfl (by simp [C.size]),
    (X.mono (fun _ _ e => e.elim)).trans (hc.mono (fun i _ hi => hin i hi)), fun i hb => .inl ?_⟩
  · have hok := H'.cell _ (List.getElem_mem hN)
    have hp0 : L[N].p ≠ g := by
      intro e
      have := H.apart
      simp only [HS.foot, List.nodup_cons, List.nodup_append] at this
      have h2 := (List.pairwise_flatMap.1 this.2.2.1).1 _ (List.getElem_mem hN)
      simp only [PC.foot, hsl, Value.ownBlock, Option.toList, List.pairwise_cons, List.mem_singleton] at h2
      exact h2.1 g rfl e
    unfold PC.ok at hok ⊢
    simp only [ht, if_false, Bool.false_eq_true] at hok ⊢
    obtain ⟨q1, q2, q3⟩ := hok
    refine ⟨blk_set_other (blk_set_other (blk_set_other (blk_set_other (blk_set_other (blk_set_other q1 hp0 _) hp0 _) hp0 _) hp0 _) hp0 _) hp0 _, ?_, q3⟩
    rw [hsl] at q2 ⊢
    have := q2.set6 hj o
    simp only [List.length_set]
    exact this
  · rw [foot_set hp slv L N { L[N] with c := { L[N].c with items := L[N].c.items.set j o } } hN rfl rfl] at hb; exact hb
end Go.Proofs.Ytgllgemjfpiogaa
