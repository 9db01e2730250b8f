/- A heap that a law made, and its boxes: what the law's walk carries along. -/
import Derived.Test.YtgllgemjfpiogaaHbw
namespace Go.Proofs.Ytgllgemjfpiogaa
open Go.RowKit

/-- Since w0 only new blocks were written; heaps lie at M's places and hold M's lists, apart; K: boxes of the law's own that stay. -/
def Ats (w0 w : World) (M : List (Nat × List C)) (K : List (Nat × Obj)) : Prop :=
  ∃ hs : List HS, hs.map (fun h => (h.hp, h.l)) = M ∧ (∀ h ∈ hs, HeapRep w h) ∧ Chg NoB w0 w ∧ (hs.flatMap HS.foot).Nodup ∧ (∀ b ∈ hs.flatMap HS.foot, w0.heap.size ≤ b) ∧
    (∀ q ∈ K, w.heap[q.1]? = some q.2 ∧ q.1 ∉ hs.flatMap HS.foot ∧ w0.heap.size ≤ q.1) ∧ (K.map Prod.fst).Nodup
/-- One heap. -/
abbrev At (w0 w : World) (hp : Nat) (L : List C) (K : List (Nat × Obj)) : Prop := Ats w0 w [(hp, L)] K

theorem reps_lt {w : World} {hs : List HS} (H : ∀ h ∈ hs, HeapRep w h) : ∀ b ∈ hs.flatMap HS.foot, b < w.heap.size := fun b hb => by
  obtain ⟨h, hh, hb⟩ := List.mem_flatMap.1 hb
  exact (H h hh).lt b hb
theorem Ats.start {w0 w : World} (X : Chg NoB w0 w) : Ats w0 w [] [] :=
  ⟨[], rfl, fun h hh => by simp at hh, X, by simp, fun b hb => by simp at hb, fun q hq => by simp at hq, by simp⟩
/-- One more heap, of new blocks. -/
theorem Ats.more {w0 w w' : World} {M : List (Nat × List C)} {K : List (Nat × Obj)} (A : Ats w0 w M K) (h' : HS) (H' : HeapRep w' h') (X : Chg NoB w w') (F : ∀ b ∈ h'.foot, w.heap.size ≤ b) :
    Ats w0 w' ((h'.hp, h'.l) :: M) K := by
  obtain ⟨hs, rfl, H, X0, D, G, k, n⟩ := A
  have lt := reps_lt H
  refine ⟨h' :: hs, rfl, fun h hh => ?_, X0.pure X, ?_, fun b hb => ?_, fun q hq => ⟨X.blk (k q hq).1 id, fun hb => ?_, (k q hq).2.2⟩, n⟩
  · rcases List.mem_cons.1 hh with rfl | hh
    · exact H'
    · exact (H h hh).pure X
  · rw [List.flatMap_cons, List.nodup_append]
    exact ⟨H'.apart, D, fun a ha b hb e => by have := F a ha; have := lt b hb; omega⟩
  · rw [List.flatMap_cons, List.mem_append] at hb
    rcases hb with hb | hb
    · have := F b hb; have := X0.size; omega
    · exact G b hb
  · rw [List.flatMap_cons, List.mem_append] at hb
    rcases hb with hb | hb
    · have := F _ hb; have := blk_lt (k q hq).1; omega
    · exact (k q hq).2.1 hb
theorem Ats.new {w0 w : World} {M : List (Nat × List C)} {K : List (Nat × Obj)} (A : Ats w0 w M K) :
    Ats w0 (w.alloc (.cells #[.slice none 0 0, .int .i64 0] 74)) ((w.heap.size, []) :: M) K :=
  A.more ⟨w.heap.size, .slice none 0 0, []⟩ (HeapRep.new w) ((Chg.refl _ _).alloc _) fun b hb => by simp [HS.foot, Value.ownBlock] at hb; omega
theorem At.new {w0 w : World} (X : Chg NoB w0 w) : At w0 (w.alloc (.cells #[.slice none 0 0, .int .i64 0] 74)) w.heap.size [] [] := (Ats.start X).new
theorem Ats.chg {w0 w : World} {M : List (Nat × List C)} {K : List (Nat × Obj)} (A : Ats w0 w M K) : Chg NoB w0 w := by
  obtain ⟨h, -, -, X, -⟩ := A; exact X
theorem Ats.box {w0 w : World} {M : List (Nat × List C)} {K : List (Nat × Obj)} (A : Ats w0 w M K) (q : Nat × Obj) (hq : q ∈ K) : w.heap[q.1]? = some q.2 := by
  obtain ⟨h, -, -, -, -, -, k, -⟩ := A; exact (k q hq).1
theorem Ats.box_ge {w0 w : World} {M : List (Nat × List C)} {K : List (Nat × Obj)} (A : Ats w0 w M K) (q : Nat × Obj) (hq : q ∈ K) : w0.heap.size ≤ q.1 := by
  obtain ⟨h, -, -, -, -, -, k, -⟩ := A; exact (k q hq).2.2
theorem Ats.pure {w0 w w' : World} {M : List (Nat × List C)} {K : List (Nat × Obj)} (A : Ats w0 w M K) (X : Chg NoB w w') : Ats w0 w' M K := by
  obtain ⟨h, h1, H, X0, D, F, k, n⟩ := A
  exact ⟨h, h1, fun h hh => (H h hh).pure X, X0.pure X, D, F, fun q hq => ⟨X.blk (k q hq).1 id, (k q hq).2⟩, n⟩
/-- One more box, of a new block. -/
theorem Ats.got {w0 w w' : World} {M : List (Nat × List C)} {K : List (Nat × Obj)} (A : Ats w0 w M K) (X : Chg NoB w w') {b : Nat} {o : Obj} (hb : w'.heap[b]? = some o) (hn : w.heap.size ≤ b) : Ats w0 w' M ((b, o) :: K) := by
  obtain ⟨h, h1, H, X0, D, F, k, n⟩ := A
  have lt := reps_lt H
  refine ⟨h, h1, fun h hh => (H h hh).pure X, X0.pure X, D, F, fun q hq => ?_, ?_⟩
  · rcases List.mem_cons.1 hq with rfl | hq
    · exact ⟨hb, fun h' => by have := lt _ h'; simp only at this; omega, Nat.le_trans X0.size hn⟩
    · exact ⟨X.blk (k q hq).1 id, (k q hq).2⟩
  · rw [List.map_cons, List.nodup_cons]
    refine ⟨fun hm => ?_, n⟩
    obtain ⟨q, hq, e⟩ := List.mem_map.1 hm
    have := blk_lt (k q hq).1
    simp only at e; omega
theorem Ats.alloc {w0 w : World} {M : List (Nat × List C)} {K : List (Nat × Obj)} (A : Ats w0 w M K) (o : Obj) : Ats w0 (w.alloc o) M ((w.heap.size, o) :: K) :=
  A.got ((Chg.refl _ _).alloc _) (blk_new w o) (Nat.le_refl _)
/-- A box is written. -/
theorem Ats.put {w0 w : World} {M : List (Nat × List C)} {K : List (Nat × Obj)} {b : Nat} {cs : Array Value} {T : TypeId} {fz : Nat × Nat} (A : Ats w0 w M ((b, .cells cs T fz) :: K)) (i : Nat) (v : Value) :
    Ats w0 (w.setCell ⟨b, i, none⟩ v) M ((b, .cells (cs.setIfInBounds i v) T fz) :: K) := by
  obtain ⟨h, h1, H, X0, D, F, k, n⟩ := A
  obtain ⟨kb, kn, kg⟩ := k _ (List.mem_cons_self ..)
  have X : Chg (· = b) w (w.setCell ⟨b, i, none⟩ v) := (Chg.refl (· = b) w).setCell (p := ⟨b, i, none⟩) (.inl rfl) v
  refine ⟨h, h1, fun x hx => (H x hx).chg X fun c hc e => kn (List.mem_flatMap.2 ⟨x, hx, e ▸ hc⟩), X0.setCell (.inr kg) v, D, F, fun q hq => ?_, n⟩
  rcases List.mem_cons.1 hq with rfl | hq
  · exact ⟨blk_set kb i v, kn, kg⟩
  · refine ⟨X.blk (k q (List.mem_cons_of_mem _ hq)).1 fun e => ?_, (k q (List.mem_cons_of_mem _ hq)).2⟩
    rw [List.map_cons, List.nodup_cons] at n
    exact n.1 (List.mem_map.2 ⟨q, hq, e⟩)
theorem Ats.perm {w0 w : World} {M : List (Nat × List C)} {K K' : List (Nat × Obj)} (A : Ats w0 w M K) (hK : K.Perm K') : Ats w0 w M K' := by
  obtain ⟨h, h1, H, X0, D, F, k, n⟩ := A
  exact ⟨h, h1, H, X0, D, F, fun q hq => k q (hK.mem_iff.2 hq), (hK.map _).nodup_iff.1 n⟩
theorem Ats.keep {w0 w : World} {M : List (Nat × List C)} {K K' : List (Nat × Obj)} (A : Ats w0 w M K) (hK : K'.Sublist K) : Ats w0 w M K' := by
  obtain ⟨h, h1, H, X0, D, F, k, n⟩ := A
  exact ⟨h, h1, H, X0, D, F, fun q hq => k q (hK.subset hq), (hK.map _).nodup n⟩
theorem Ats.forget {w0 w : World} {M : List (Nat × List C)} {K : List (Nat × Obj)} (A : Ats w0 w M K) : Ats w0 w M [] := A.keep (List.nil_sublist _)
/-- Another order of the heaps. -/
theorem Ats.order {w0 w : World} {M M' : List (Nat × List C)} {K : List (Nat × Obj)} (A : Ats w0 w M K) (hM : M.Perm M') : Ats w0 w M' K := by
  obtain ⟨hs, h1, H, X0, D, F, k, n⟩ := A
  obtain ⟨hs', hp, h2⟩ : ∃ hs', hs.Perm hs' ∧ hs'.map (fun h => (h.hp, h.l)) = M' := by
    subst h1
    clear H D F k
    generalize hm : hs.map (fun h : HS => (h.hp, h.l)) = M at hM
    induction hM generalizing hs with
    | nil => exact ⟨[], by simp at hm; simp [hm], rfl⟩
    | cons x _ ih =>
      obtain ⟨a, t, rfl, rfl, rfl⟩ := List.map_eq_cons_iff.1 hm
      obtain ⟨t', p, e⟩ := ih t rfl
      exact ⟨a :: t', p.cons a, by simp [e]⟩
    | swap x y l =>
      obtain ⟨a, t, rfl, rfl, hm'⟩ := List.map_eq_cons_iff.1 hm
      obtain ⟨b, t', rfl, rfl, rfl⟩ := List.map_eq_cons_iff.1 hm'
      exact ⟨b :: a :: t', List.Perm.swap .., rfl⟩
    | trans _ _ ih1 ih2 =>
      obtain ⟨t, p, e⟩ := ih1 hs hm
      obtain ⟨t', p', e'⟩ := ih2 t e
      exact ⟨t', p.trans p', e'⟩
  have hf := hp.flatMap_right HS.foot
  exact ⟨hs', h2, fun h hh => H h (hp.mem_iff.2 hh), X0, hf.nodup_iff.1 D, fun b hb => F b (hf.mem_iff.2 hb), fun q hq => ⟨(k q hq).1, fun hb => (k q hq).2.1 (hf.mem_iff.2 hb), (k q hq).2.2⟩, n⟩
/-- Fewer heaps. -/
theorem Ats.drop {w0 w : World} {x : Nat × List C} {M : List (Nat × List C)} {K : List (Nat × Obj)} (A : Ats w0 w (x :: M) K) : Ats w0 w M K := by
  obtain ⟨hs, h1, H, X0, D, F, k, n⟩ := A
  obtain ⟨h, t, rfl, -, rfl⟩ := List.map_eq_cons_iff.1 h1
  rw [List.flatMap_cons] at D
  exact ⟨t, rfl, fun x hx => H x (List.mem_cons_of_mem _ hx), X0, (List.nodup_append.1 D).2.1, fun b hb => F b (by rw [List.flatMap_cons, List.mem_append]; exact .inr hb),
    fun q hq => ⟨(k q hq).1, fun hb => (k q hq).2.1 (by rw [List.flatMap_cons, List.mem_append]; exact .inr hb), (k q hq).2.2⟩, n⟩
/-- A method that changes the first heap. -/
theorem Ats.does {w0 w : World} {hp : Nat} {L L' : List C} {M : List (Nat × List C)} {K : List (Nat × Obj)} {f : Nat} {args : Array Value} {r : Value} (A : Ats w0 w ((hp, L) :: M) K)
    (hc : ∀ h : HS, h.hp = hp → h.l = L → HeapRep w h → Calls Try.prog f args w fun e w' => e = .returned r ∧ Next w h w' L') :
    Calls Try.prog f args w fun e w' => e = .returned r ∧ Ats w0 w' ((hp, L') :: M) K := by
  obtain ⟨hs, h1, H, X0, D, F, k, n⟩ := A
  obtain ⟨h, t, rfl, h2, rfl⟩ := List.map_eq_cons_iff.1 h1
  obtain ⟨h2, h3⟩ := Prod.mk.injEq .. ▸ h2
  refine (hc h h2 h3 (H h (List.mem_cons_self ..))).mono fun e w' ⟨he, hn⟩ => ⟨he, ?_⟩
  obtain ⟨h', e1, e2, H', X, F'⟩ := hn
  rw [List.flatMap_cons, List.nodup_append] at D
  obtain ⟨D1, D2, D3⟩ := D
  have Ht : ∀ x ∈ t, HeapRep w x := fun x hx => H x (List.mem_cons_of_mem _ hx)
  have lt := reps_lt Ht
  have F0 : ∀ b ∈ h.foot, w0.heap.size ≤ b := fun b hb => F b (by rw [List.flatMap_cons, List.mem_append]; exact .inl hb)
  have Ft : ∀ b ∈ t.flatMap HS.foot, w0.heap.size ≤ b := fun b hb => F b (by rw [List.flatMap_cons, List.mem_append]; exact .inr hb)
  have kn : ∀ q ∈ K, q.1 ∉ h.foot ∧ q.1 ∉ t.flatMap HS.foot := fun q hq => by
    have := (k q hq).2.1
    rw [List.flatMap_cons, List.mem_append] at this
    exact ⟨fun z => this (.inl z), fun z => this (.inr z)⟩
  refine ⟨h' :: t, by simp [e1, e2, h2], fun x hx => ?_, X0.trans' X (fun i hi hb => by have := F0 i hb; omega), ?_, fun b hb => ?_, fun q hq => ⟨X.blk (k q hq).1 (kn q hq).1, fun hb => ?_, (k q hq).2.2⟩, n⟩
  · rcases List.mem_cons.1 hx with rfl | hx
    · exact H'
    · exact (Ht x hx).chg X fun b hb hb' => D3 b hb' b (List.mem_flatMap.2 ⟨x, hx, hb⟩) rfl
  · rw [List.flatMap_cons, List.nodup_append]
    refine ⟨H'.apart, D2, fun a ha b hb e => ?_⟩
    rcases F' a ha with q | q
    · exact D3 a q b hb e
    · have := lt b hb; omega
  · rw [List.flatMap_cons, List.mem_append] at hb
    rcases hb with hb | hb
    · have := X0.size
      rcases F' b hb with q | q
      · exact F0 b q
      · omega
    · exact Ft b hb
  · rw [List.flatMap_cons, List.mem_append] at hb
    rcases hb with hb | hb
    · rcases F' _ hb with e | e
      · exact (kn q hq).1 e
      · have := blk_lt (k q hq).1; omega
    · exact (kn q hq).2 hb
/-- What a heap among them tells. -/
theorem Ats.rep {w0 w : World} {hp : Nat} {L : List C} {M : List (Nat × List C)} {K : List (Nat × Obj)} (A : Ats w0 w M K) (hm : (hp, L) ∈ M) : ∃ h : HS, h.hp = hp ∧ h.l = L ∧ HeapRep w h := by
  obtain ⟨hs, rfl, H, -⟩ := A
  obtain ⟨h, hh, e⟩ := List.mem_map.1 hm
  obtain ⟨e1, e2⟩ := Prod.mk.injEq .. ▸ e
  exact ⟨h, e1, e2, H h hh⟩
/-- A method that only asks one of the heaps. -/
theorem Ats.asks {w0 w : World} {hp : Nat} {L : List C} {M : List (Nat × List C)} {K : List (Nat × Obj)} {f : Nat} {args : Array Value} {r : Value} (A : Ats w0 w M K) (hm : (hp, L) ∈ M)
    (hc : ∀ h : HS, h.hp = hp → h.l = L → HeapRep w h → Calls Try.prog f args w fun e w' => e = .returned r ∧ Chg NoB w w') :
    Calls Try.prog f args w fun e w' => e = .returned r ∧ Ats w0 w' M K := by
  obtain ⟨h, h1, h2, H⟩ := A.rep hm
  exact (hc h h1 h2 H).mono fun e w' ⟨he, hn⟩ => ⟨he, A.pure hn⟩

theorem at_array {w0 w : World} {hp : Nat} {L : List C} {M : List (Nat × List C)} {K : List (Nat × Obj)} (A : Ats w0 w ((hp, L) :: M) K) (n : Int) {L' : List C} {o : O} {e : Int} (hr : arrayH L n = (L', o, e)) :
    Calls Try.prog 21 #[ptr hp, .int .i64 n] w fun r w' => r = .returned (.tuple #[o.val, .int .i64 e]) ∧ Ats w0 w' ((hp, L') :: M) K :=
  A.does fun h h1 h2 H => by subst h1 h2; have := array_any h n w H; rwa [hr] at this
theorem at_string {w0 w : World} {hp : Nat} {L : List C} {M : List (Nat × List C)} {K : List (Nat × Obj)} (A : Ats w0 w ((hp, L) :: M) K) (s : ByteArray) {L' : List C} {o : O} {e : Int} (hr : stringH L s = (L', o, e)) :
    Calls Try.prog 18 #[ptr hp, .string s] w fun r w' => r = .returned (.tuple #[o.val, .int .i64 e]) ∧ Ats w0 w' ((hp, L') :: M) K :=
  A.does fun h h1 h2 H => by subst h1 h2; have := string_any h s w H; rwa [hr] at this
theorem at_dict {w0 w : World} {hp : Nat} {L : List C} {M : List (Nat × List C)} {K : List (Nat × Obj)} (A : Ats w0 w ((hp, L) :: M) K) (n : Int) {L' : List C} {o : O} {e : Int} (hr : dictH L n = (L', o, e)) :
    Calls Try.prog 36 #[ptr hp, .int .i64 n] w fun r w' => r = .returned (.tuple #[o.val, .int .i64 e]) ∧ Ats w0 w' ((hp, L') :: M) K :=
  A.does fun h h1 h2 H => by subst h1 h2; have := hdict_any h n w H; rwa [hr] at this
theorem at_set {w0 w : World} {hp : Nat} {L : List C} {M : List (Nat × List C)} {K : List (Nat × Obj)} (A : Ats w0 w ((hp, L) :: M) K) (o : O) (i : Int) (x : O) {L' : List C} {e : Int} (hr : setH L o i x = (L', e)) :
    Calls Try.prog 22 #[ptr hp, o.val, .int .i64 i, x.val] w fun r w' => r = .returned (.int .i64 e) ∧ Ats w0 w' ((hp, L') :: M) K :=
  A.does fun h h1 h2 H => by subst h1 h2; have := set_any h o i x w H; rwa [hr] at this
theorem at_get {w0 w : World} {hp : Nat} {L : List C} {M : List (Nat × List C)} {K : List (Nat × Obj)} (A : Ats w0 w M K) (o : O) (i : Int) {o' : O} {e : Int} (hr : getH L o i = (o', e)) (hm : (hp, L) ∈ M := by first | exact List.mem_cons_self .. | exact List.mem_cons_of_mem _ (List.mem_cons_self ..) | assumption) :
    Calls Try.prog 41 #[ptr hp, o.val, .int .i64 i] w fun r w' => r = .returned (.tuple #[o'.val, .int .i64 e]) ∧ Ats w0 w' M K :=
  A.asks hm fun h h1 h2 H => by subst h1 h2; have := get_any h o i w H; rwa [hr] at this
theorem at_bytes {w0 w : World} {hp : Nat} {L : List C} {M : List (Nat × List C)} {K : List (Nat × Obj)} (A : Ats w0 w M K) (o : O) {b : ByteArray} {e : Int} (hr : bytesH L o = (b, e)) (hm : (hp, L) ∈ M := by first | exact List.mem_cons_self .. | exact List.mem_cons_of_mem _ (List.mem_cons_self ..) | assumption) :
    Calls Try.prog 38 #[ptr hp, o.val] w fun r w' => r = .returned (.tuple #[.string b, .int .i64 e]) ∧ Ats w0 w' M K :=
  A.asks hm fun h h1 h2 H => by subst h1 h2; have := bytes_any h o w H; rwa [hr] at this
theorem at_used {w0 w : World} {hp : Nat} {L : List C} {M : List (Nat × List C)} {K : List (Nat × Obj)} (A : Ats w0 w M K) (hm : (hp, L) ∈ M := by first | exact List.mem_cons_self .. | exact List.mem_cons_of_mem _ (List.mem_cons_self ..) | assumption) :
    Calls Try.prog 34 #[ptr hp] w fun r w' => r = .returned (.int .i64 (used L : Nat)) ∧ w = w' := by
  obtain ⟨h, rfl, rfl, H⟩ := A.rep hm; exact used_any h w H
/-- Items: the row that it makes is a box. -/
theorem at_items {w0 w : World} {hp : Nat} {L : List C} {M : List (Nat × List C)} {K : List (Nat × Obj)} (A : Ats w0 w M K) (o : O) {l : List O} {e : Int} (hr : itemsH L o = (l, e)) (hl : 0 < l.length) (hm : (hp, L) ∈ M := by first | exact List.mem_cons_self .. | exact List.mem_cons_of_mem _ (List.mem_cons_self ..) | assumption) :
    Calls Try.prog 45 #[ptr hp, o.val] w fun r w' => ∃ g cap cur fz, r = .returned (.tuple #[.slice (some ⟨g, 0, none⟩) l.length cap, .int .i64 e]) ∧ l.length ≤ cap ∧ Ats w0 w' M ((g, .cells cur 28 fz) :: K) ∧
      ∀ i, i < l.length * 6 → cur[i]? = (l.flatMap O.cells)[i]? := by
  obtain ⟨h, rfl, rfl, H⟩ := A.rep hm
  refine (items_any h o w H).mono ?_
  rintro r w' ⟨v, rfl, X, own⟩
  rw [hr] at own ⊢
  obtain ⟨g, cap, cur, fz, rfl, hg, -, hcap, -, -, hc⟩ := (Row.of_owns (owns_base own (Nat.zero_le _))).some' hl
  exact ⟨g, cap, cur, fz, rfl, hcap, A.got X hg (owns_ge own g (by simp [Value.ownBlock])).1, hc⟩
theorem kn_1 : arrayH [] 2 = ([⟨false, false, false, [nullO, nullO], []⟩], ⟨9, false, 0, 0, 2, ⟨#[]⟩⟩, 0) := by
  simp [arrayH, makeH, addE, objOf, used, C.size, C.kind, List.replicate]
theorem kn_2 : partH [⟨false, false, false, [nullO, nullO], []⟩] ⟨9, false, 0, 0, 2, ⟨#[]⟩⟩ 1 1 = (⟨9, false, 0, 1, 1, ⟨#[]⟩⟩, 0) := by
  simp [partH, findE, held, mayH, mayO, eqO, bareO, O.nil, C.size, C.kind]
theorem kn_3 : setH [⟨false, false, false, [nullO, nullO], []⟩] ⟨9, false, 0, 1, 1, ⟨#[]⟩⟩ 0 ⟨3, false, 7, 0, 0, ⟨#[]⟩⟩ = ([⟨false, false, false, [nullO, ⟨3, false, 7, 0, 0, ⟨#[]⟩⟩], []⟩], 0) := by
  simp [setH, findE, held, mayH, mayO, eqO, bareO, O.nil, C.size, C.kind, lenOf, atOf]
theorem kn_4 : getH [⟨false, false, false, [nullO, ⟨3, false, 7, 0, 0, ⟨#[]⟩⟩], []⟩] ⟨9, false, 0, 0, 2, ⟨#[]⟩⟩ 1 = (⟨3, false, 7, 0, 0, ⟨#[]⟩⟩, 0) := by
  simp [getH, findE, held, mayH, mayO, eqO, bareO, O.nil, C.size, C.kind, lenOf, atOf]
end Go.Proofs.Ytgllgemjfpiogaa
