/- Parts of the proof: Hup, Hnul, Str, Opf. -/
import Derived.Test.YtpiomapnmempoaaGreatY01
namespace Go.Proofs.YtpiomapnmempoaaGreat
open Go.RowKit
variable {w w' : World} {N cap g hp j : Nat} {slv : Value}
theorem foot_set (hp : Nat) (slv : Value) (L : List PC) (N : Nat) (x : PC) (hN : N < L.length) (h1 : x.p = L[N].p) (h2 : x.sl = L[N].sl) :
 HS.foot ⟨hp, slv, L.set N x⟩ = HS.foot ⟨hp, slv, L⟩ := by
 have hx : x.foot = L[N].foot := by simp [PC.foot, h1, h2]
 have : ∀ (L : List PC) (N : Nat) (hN : N < L.length), x.foot = L[N].foot → (L.set N x).flatMap PC.foot = L.flatMap PC.foot := by
  intro L
  induction L with
  | nil => intro N hN; simp at hN
  | cons y L ih =>
   intro N hN hx
   cases N with
   | zero => simp only [List.getElem_cons_zero] at hx; simp [List.set, hx]
   | succ N => simp only [List.getElem_cons_succ] at hx; simp only [List.set, List.flatMap_cons]; rw [ih N (by simpa using hN) hx]
 simp only [HS.foot]; rw [this L N hN hx]
theorem ptrs_set (L : List PC) (N : Nat) (x : PC) (hN : N < L.length) (hx : x.ptrs = L[N].ptrs) : (L.set N x).flatMap PC.ptrs = L.flatMap PC.ptrs := by
 induction L generalizing N with
 | nil => simp at hN
 | cons y L ih =>
  cases N with
  | zero => simp only [List.getElem_cons_zero] at hx; simp [List.set, hx]
  | succ N => simp only [List.getElem_cons_succ] at hx; simp only [List.set, List.flatMap_cons]; rw [ih N (by simpa using hN) hx]
theorem HeapRep.apart_cells {L : List PC} (H : HeapRep w ⟨hp, slv, L⟩) {i j : Nat} (hi : i < L.length) (hj : j < L.length) (hij : i ≠ j) : ∀ b ∈ L[i].foot, b ∉ L[j].foot := by
 have h1 : (L.flatMap PC.foot).Nodup := by
  have := H.apart; simp only [HS.foot, List.nodup_cons, List.nodup_append] at this; exact this.2.2.1
 have h2 := (List.pairwise_flatMap.1 h1).2; intro b hb hb'
 rcases Nat.lt_or_gt_of_ne hij with h | h
 · exact (List.pairwise_iff_getElem.1 h2 i j hi hj h) b hb b hb' rfl
 · exact (List.pairwise_iff_getElem.1 h2 j i hj hi h) b hb' b hb rfl
theorem HeapRep.apart_head {L : List PC} (H : HeapRep w ⟨hp, slv, L⟩) {i : Nat} (hi : i < L.length) : hp ∉ L[i].foot ∧ ∀ b ∈ slv.ownBlock.toList, b ∉ L[i].foot := by
 have := H.apart; simp only [HS.foot, List.nodup_cons, List.nodup_append, List.mem_append, List.mem_flatMap, not_or, not_exists, not_and] at this; refine ⟨fun h => this.1.2 _ (List.getElem_mem hi) h, fun b hb h => ?_⟩; exact this.2.2.2 b hb b ⟨_, List.getElem_mem hi, h⟩ rfl
theorem HeapRep.update {L : List PC} (H : HeapRep w ⟨hp, slv, L⟩) {N : Nat} (hN : N < L.length) (x : PC)
 (hc : Chg (· ∈ L[N].foot) w w') (hok : x.ok w') (h1 : x.p = L[N].p) (h2 : x.sl = L[N].sl) (h3 : x.c.text = L[N].c.text) (h4 : x.c.size = L[N].c.size) :
 HeapRep w' ⟨hp, slv, L.set N x⟩ := by
 have hu : used ((L.set N x).map PC.c) = used (L.map PC.c) := by
  unfold used
  congr 1
  apply List.ext_getElem?
  intro i; simp only [List.getElem?_map, List.getElem?_set]; split
  · rename_i e; subst e
    simp [hN, h4]
  · rfl
 have hptr : x.ptrs = L[N].ptrs := by simp [PC.ptrs, h1, h3]
 obtain ⟨a1, a2⟩ := H.apart_head hN; refine ⟨?_, ?_, ?_, ?_, ?_, ?_⟩
 · have := hc.blk H.head a1; simp only [HS.l] at this ⊢; rw [hu]; exact this
 · have := owns_chg H.own hc a2; simp only [List.length_set] at this ⊢; rw [ptrs_set L N x hN hptr]; exact this
 · intro y hy; obtain ⟨i, hi, rfl⟩ := List.mem_iff_getElem.1 hy; simp only [List.length_set] at hi
   by_cases e : N = i
   · subst e; simpa using hok
   · simp only [List.getElem_set, e, if_false]; exact (H.cell _ (List.getElem_mem hi)).chg hc (fun b hb hb' => H.apart_cells hi hN (fun q => e q.symm) b hb hb')
 · rw [foot_set hp slv L N x hN h1 h2]; exact H.apart
 · have := H.most; simpa using this
 · have := H.room; simp only [HS.l] at this ⊢; rw [hu]; exact this
theorem Row.set1 {T : TypeId} {n : Nat} {xs : List Value} (h : Row w T 1 (.slice (some ⟨g, 0, none⟩) n cap) n xs) {j : Nat} (_hj : j < n) (v : Value) :
 Row (w.setCell ⟨g, j, none⟩ v) T 1 (.slice (some ⟨g, 0, none⟩) n cap) n (xs.set j v) := by
 refine ⟨by simpa using h.1, .inr ?_⟩
 rcases h.2 with ⟨e, _⟩ | ⟨g', cap', cur, fz, e, h2, h3, h4, h5, h6, h7⟩
 · simp at e
 · simp at e
   obtain ⟨rfl, rfl⟩ := e; refine ⟨g, cap, _, fz, rfl, blk_set h2 j v, ?_, h4, h5, by simpa using h6, ?_⟩
   · simpa using h3
   · rw [← h7, Array.toList_setIfInBounds, List.take_set]
theorem flat_set (f : O → List Value) (hf : ∀ x, (f x).length = 6) (L : List O) (j : Nat) (o : O) (hj : j < L.length) :
 (L.set j o).flatMap f = (((((((L.flatMap f).set (j * 6) ((f o).getD 0 undef)).set (j * 6 + 1) ((f o).getD 1 undef)).set (j * 6 + 2) ((f o).getD 2 undef)).set (j * 6 + 3) ((f o).getD 3 undef)).set (j * 6 + 4) ((f o).getD 4 undef)).set (j * 6 + 5) ((f o).getD 5 undef)) := by
 apply List.ext_getElem?
 intro m
 have hm : m = m / 6 * 6 + m % 6 := by omega
 have hr : m % 6 < 6 := Nat.mod_lt _ (by omega); generalize m / 6 = q at *; generalize m % 6 = r at *; subst hm; have hl := flat_length f 6 hf L; have hfo := hf o; rw [flat_get f 6 hf r hr]; simp only [List.getElem?_set, List.length_set, hl]
 by_cases e : j = q
 · subst e; have e' : j = j := rfl
   have c : r = 0 ∨ r = 1 ∨ r = 2 ∨ r = 3 ∨ r = 4 ∨ r = 5 := by omega
   have hq : ∀ k, k < 6 → j * 6 + k < L.length * 6 := by intro k hk; omega
   have g : ∀ k, k < 6 → (f o)[k]? = some ((f o).getD k undef) := by intro k hk; simp [hfo, hk]
   rw [if_pos e', if_pos hj]; simp only [Option.bind_some]; rw [g r hr]
   rcases c with rfl | rfl | rfl | rfl | rfl | rfl
   · simp [show j * 6 < L.length * 6 by omega]
   · simp [hq]
   · simp [hq]
   · simp [hq]
   · simp [hq]
   · simp [hq]
 · have n0 : ¬ j * 6 = q * 6 + r := by omega
   have n1 : ¬ j * 6 + 1 = q * 6 + r := by omega
   have n2 : ¬ j * 6 + 2 = q * 6 + r := by omega
   have n3 : ¬ j * 6 + 3 = q * 6 + r := by omega
   have n4 : ¬ j * 6 + 4 = q * 6 + r := by omega
   have n5 : ¬ j * 6 + 5 = q * 6 + r := by omega
   simp only [e, n0, n1, n2, n3, n4, n5, if_false]; rw [flat_get f 6 hf r hr]
abbrev put6 (w : World) (g m : Nat) (o : O) : World :=
 (((((w.setCell ⟨g, m, none⟩ (.int .i64 o.kind)).setCell ⟨g, m + 1, none⟩ (.bool o.exec)).setCell ⟨g, m + 2, none⟩ (.int .i64 o.n)).setCell ⟨g, m + 3, none⟩ (.int .i64 o.pos)).setCell ⟨g, m + 4, none⟩ (.int .i64 o.len)).setCell ⟨g, m + 5, none⟩ (.string o.s)
theorem Row.set6 {T : TypeId} {L : List O} (h : Row w T 6 (.slice (some ⟨g, 0, none⟩) L.length cap) L.length (L.flatMap O.cells)) {j : Nat} (hj : j < L.length) (o : O) :
 Row (put6 w g (j * 6) o) T 6 (.slice (some ⟨g, 0, none⟩) L.length cap) L.length ((L.set j o).flatMap O.cells) := by
 refine ⟨by rw [flat_length O.cells 6 cells_length]; simp, .inr ?_⟩
 rcases h.2 with ⟨e, _⟩ | ⟨g', cap', cur, fz, e, h2, h3, h4, h5, h6, h7⟩
 · simp at e
 · simp at e
   obtain ⟨rfl, rfl⟩ := e; refine ⟨g, cap, _, fz, rfl, blk_set (blk_set (blk_set (blk_set (blk_set (blk_set h2 _ _) _ _) _ _) _ _) _ _) _ _, ?_, h4, h5, by simpa using h6, ?_⟩
   · simpa using h3
   · rw [flat_set O.cells cells_length L j o hj, ← h7]; simp only [Array.toList_setIfInBounds, List.take_set]; rfl
theorem Chg.one {S : Nat → Prop} {a : World} (h : Chg S a w) {p : Addr} (hp : S p.block) (u : Value) : Chg S a (w.setCell p u) := h.setCell (.inl hp) u
theorem Next.same {h : HS} (H : HeapRep w h) (X : Chg NoB w w') : Next w h w' h.l :=
 ⟨h, rfl, rfl, H.pure X, X.mono (fun _ _ e => e.elim), fun _b hb => .inl hb⟩
theorem Next.byte {L : List PC} (H : HeapRep w ⟨hp, slv, L⟩) (X : Chg NoB w w') {N : Nat} (hN : N < L.length) (ht : L[N].c.text = true) {g cap j : Nat}
 (hsl : L[N].sl = .slice (some ⟨g, 0, none⟩) L[N].c.bytes.length cap) (hj : j < L[N].c.bytes.length) (b : UInt8) :
 Next w ⟨hp, slv, L⟩ (w'.setCell ⟨g, j, none⟩ (vu8 b)) ((L.map PC.c).set N { L[N].c with bytes := L[N].c.bytes.set j b }) := by
 have H' := H.pure X
 have hg : g ∈ L[N].foot := by simp [PC.foot, hsl, Value.ownBlock]
 have hc : Chg (· ∈ L[N].foot) w' (w'.setCell ⟨g, j, none⟩ (vu8 b)) := (Chg.refl _ _).one hg _
 have hin : ∀ b ∈ L[N].foot, b ∈ HS.foot ⟨hp, slv, L⟩ := fun b hb => by simp only [HS.foot, List.mem_cons, List.mem_append, List.mem_flatMap]; exact .inr (.inr ⟨_, List.getElem_mem hN, hb⟩)
 refine ⟨⟨hp, slv, L.set N { L[N] with c := { L[N].c with bytes := L[N].c.bytes.set j b } }⟩, rfl, by simp [HS.l], H'.update hN _ hc ?_ rfl rfl rfl (by simp [C.size]),
  (X.mono (fun _ _ e => e.elim)).trans (hc.mono (fun i _ hi => hin i hi)), fun i hb => .inl ?_⟩
 · have hok := H'.cell _ (List.getElem_mem hN)
   have hp0 : L[N].p ≠ g := by
    intro e; have := H.apart; simp only [HS.foot, List.nodup_cons, List.nodup_append] at this; have h2 := (List.pairwise_flatMap.1 this.2.2.1).1 _ (List.getElem_mem hN); simp only [PC.foot, hsl, Value.ownBlock, Option.toList, List.pairwise_cons, List.mem_singleton] at h2; exact h2.1 g rfl e
   unfold PC.ok at hok ⊢; simp only [ht, if_true] at hok ⊢; obtain ⟨q1, q2, q3⟩ := hok; refine ⟨blk_set_other q1 hp0 _, ?_, q3⟩; rw [hsl] at q2 ⊢; have := q2.set1 hj (vu8 b); simp only [List.length_set]; rw [List.map_set]; exact this
 · rw [foot_set hp slv L N { L[N] with c := { L[N].c with bytes := L[N].c.bytes.set j b } } hN rfl rfl] at hb; exact hb
theorem Next.item {L : List PC} (H : HeapRep w ⟨hp, slv, L⟩) (X : Chg NoB w w') {N : Nat} (hN : N < L.length) (ht : L[N].c.text = false) {g cap j : Nat}
 (hsl : L[N].sl = .slice (some ⟨g, 0, none⟩) L[N].c.items.length cap) (hj : j < L[N].c.items.length) (o : O) :
 Next w ⟨hp, slv, L⟩ (put6 w' g (j * 6) o) ((L.map PC.c).set N { L[N].c with items := L[N].c.items.set j o }) := by
 have H' := H.pure X
 have hg : g ∈ L[N].foot := by simp [PC.foot, hsl, Value.ownBlock]
 have hc : Chg (· ∈ L[N].foot) w' (put6 w' g (j * 6) o) := ((((((Chg.refl _ _).one hg _).one hg _).one hg _).one hg _).one hg _).one hg _
 have hin : ∀ b ∈ L[N].foot, b ∈ HS.foot ⟨hp, slv, L⟩ := fun b hb => by simp only [HS.foot, List.mem_cons, List.mem_append, List.mem_flatMap]; exact .inr (.inr ⟨_, List.getElem_mem hN, hb⟩)
 refine ⟨⟨hp, slv, L.set N { L[N] with c := { L[N].c with items := L[N].c.items.set j o } }⟩, rfl, by simp [HS.l], H'.update hN _ hc ?_ rfl rfl rfl (by simp [C.size]),
  (X.mono (fun _ _ e => e.elim)).trans (hc.mono (fun i _ hi => hin i hi)), fun i hb => .inl ?_⟩
 · have hok := H'.cell _ (List.getElem_mem hN)
   have hp0 : L[N].p ≠ g := by
    intro e; have := H.apart; simp only [HS.foot, List.nodup_cons, List.nodup_append] at this; have h2 := (List.pairwise_flatMap.1 this.2.2.1).1 _ (List.getElem_mem hN); simp only [PC.foot, hsl, Value.ownBlock, Option.toList, List.pairwise_cons, List.mem_singleton] at h2; exact h2.1 g rfl e
   unfold PC.ok at hok ⊢; simp only [ht, if_false, Bool.false_eq_true] at hok ⊢; obtain ⟨q1, q2, q3⟩ := hok; refine ⟨blk_set_other (blk_set_other (blk_set_other (blk_set_other (blk_set_other (blk_set_other q1 hp0 _) hp0 _) hp0 _) hp0 _) hp0 _) hp0 _, ?_, q3⟩; rw [hsl] at q2 ⊢; have := q2.set6 hj o; simp only [List.length_set]; exact this
 · rw [foot_set hp slv L N { L[N] with c := { L[N].c with items := L[N].c.items.set j o } } hN rfl rfl] at hb; exact hb
theorem Hid.mk'' {p : Prop} (h : p) : Hid p := h
def nullO : O := ⟨1, false, 0, 0, 0, ⟨#[]⟩⟩
theorem Tryz.infoObj : (Tryz.prog.info? 49).map (fun i => (i.zero, i.size, i.bytes)) = some (some O.nil.val, 6, 56) := by kernel_rfl
theorem Tryz.underObjs : Tryz.prog.underlying 44 = some (.slice 49) := by kernel_rfl
def zrow (n : Nat) : Array Value := madeCells O.nil.cells.toArray (n * 6)
theorem run_make_objs (n : Nat) (hn : n ≤ 1000000) (w : World) :
 (Instr.makeSlice 44 (.int .i64 (n : Int)) (.int .i64 (n : Int))).run Tryz.prog w = .ok (.slice (some ⟨w.heap.size, 0, none⟩) n n) (w.alloc (.cells (zrow n) 49)) := by
 obtain ⟨i0, hi, hz0, hz1, hz2⟩ := info_parts Tryz.infoObj; have hr := run_make (P := Tryz.prog) w _ _ i0 _ Tryz.underObjs hi hz0 .i64 .i64 n n (by omega) (Int.le_refl _) (by rw [hz2]; omega) (by omega); simp only [Int.toNat_natCast, hz1] at hr; exact hr
theorem zrow_toList (n : Nat) : (zrow n).toList = (List.replicate n O.nil).flatMap O.cells := by
 apply List.ext_getElem?
 intro m
 have hm : m = m / 6 * 6 + m % 6 := by omega
 have hr : m % 6 < 6 := Nat.mod_lt _ (by omega); have hmod : m % 6 = m % 6 := rfl; rw [hm, flat_get O.cells 6 cells_length _ hr]; simp only [List.getElem?_replicate]
 by_cases h : m / 6 < n
 · have h2 : m / 6 * 6 + m % 6 < n * 6 := by omega
   rw [if_pos h]; simp only [zrow, madeCells, Array.toList_map, Array.toList_range, List.getElem?_map, List.getElem?_range h2, Option.map_some, Option.bind_some]
   have : (m / 6 * 6 + m % 6) % 6 = m % 6 := by omega
   generalize m % 6 = r at *; simp only [O.nil, O.cells, List.size_toArray, List.length_cons, List.length_nil]; rw [this]
   have c : r = 0 ∨ r = 1 ∨ r = 2 ∨ r = 3 ∨ r = 4 ∨ r = 5 := by omega
   rcases c with rfl | rfl | rfl | rfl | rfl | rfl <;> rfl
 · rw [if_neg h]; simp [zrow, madeCells]; omega
theorem flat_set0 (L : List O) (j : Nat) (hj : j < L.length) (o : O) (v : Value) (h : o.cells = L[j].cells.set 0 v) : (L.set j o).flatMap O.cells = (L.flatMap O.cells).set (j * 6) v := by
 induction L generalizing j with
 | nil => simp at hj
 | cons x L ih =>
  cases j with
  | zero =>
   simp only [List.getElem_cons_zero] at h; simp only [List.set_cons_zero, List.flatMap_cons, h, Nat.zero_mul]; rw [List.set_append_left _ _ (by simp [cells_length])]
  | succ j =>
   simp only [List.getElem_cons_succ] at h; simp only [List.set_cons_succ, List.flatMap_cons]; rw [ih j (by simpa using hj) h, List.set_append_right _ _ (by simp [cells_length]; omega)]
   congr 2
   simp [cells_length]; omega
theorem rep_set (n k : Nat) (hk : k < n) : (List.replicate k nullO ++ List.replicate (n - k) O.nil).set k nullO = List.replicate (k + 1) nullO ++ List.replicate (n - (k + 1)) O.nil := by
 rw [List.set_append_right _ _ (by simp)]
 obtain ⟨m, rfl⟩ : ∃ m, n = k + 1 + m := ⟨n - (k + 1), by omega⟩
 rw [show k + 1 + m - k = m + 1 by omega, show k + 1 + m - (k + 1) = m by omega]; rw [List.length_replicate, Nat.sub_self, List.replicate_succ (n := m), List.set_cons_zero, List.replicate_succ' (n := k), List.append_assoc, List.singleton_append]
theorem nulls_any (n : Nat) (hn : n ≤ 1000000) (w : World) :
 Calls Tryz.prog 90 #[.int .i64 n] w fun e w' => e = .returned (.slice (some ⟨w.heap.size, 0, none⟩) n n) ∧ Chg NoB w w' ∧
  ∃ cur : Array Value, w'.heap[w.heap.size]? = some (.cells cur 49 (0, 0)) ∧ cur.toList = (List.replicate n nullO).flatMap O.cells := by
 have hmk := run_make_objs n hn w; go_enter Tryz.func90, Tryz.ntmps90
 go_wp2
 go_loopw [4, 9] (fun _ i9 wr => ∃ (k : Nat) (cur : Array Value), k ≤ n ∧ i9 = .int .i64 k ∧ wr.heap[w.heap.size]? = some (.cells cur 49 (0, 0)) ∧ cur.toList = (List.replicate k nullO ++ List.replicate (n - k) O.nil).flatMap O.cells ∧ Chg NoB w wr) (fun _ i9 _ => n - (intOf i9).toNat)
 case atStart => exact ⟨0, _, Nat.zero_le _, rfl, blk_new w _, by simp [zrow_toList], (Chg.refl _ _).alloc _⟩
 case round =>
  obtain ⟨k, cur, hk, rfl, hc, hl, X⟩ := hrel; have R := cells_of hc; have Z := free_of hc; have lc := blk_lt hc
  by_cases hlt : k < n
  · have e0 : cur[k * 6]? = some (.int .i64 0) := by
     have := flat_get O.cells 6 cells_length 0 (by omega) (List.replicate k nullO ++ List.replicate (n - k) O.nil) k; rw [← hl] at this; simp only [Nat.add_zero, Array.getElem?_toList] at this; rw [this, List.getElem?_append_right (by simp)]; simp [show 0 < n - k by omega, O.cells, O.nil]
    have HL := Hid.mk'' hl; clear hl hmk; go_wp2
    go_roundw
    case rel =>
     refine ⟨k + 1, _, by omega, by go_num, blk_set hc (k * 6) (.int .i64 1), ?_, X.setCell (.inr (Nat.le_refl _)) _⟩; rw [Array.toList_setIfInBounds, HL.out, ← rep_set n k hlt]; refine (flat_set0 _ k (by simp; omega) nullO _ ?_).symm; rw [List.getElem_append_right (by simp)]; simp [O.cells, O.nil, nullO]
    case measure => simp [intOf]; omega
  · have hkn : k = n := by omega
    subst hkn; go_wp2
    go_ret; exact ⟨rfl, X, cur, hc, by simpa using hl⟩
theorem Tryz.underStr : Tryz.prog.underlying 9 = some .string := by kernel_rfl
theorem Tryz.underBytes : Tryz.prog.underlying 59 = some (.slice 5) := by kernel_rfl
theorem Tryz.underByte : Tryz.prog.underlying 5 = some (.int .u8) := by kernel_rfl
def strCap (w : World) (s : ByteArray) : Nat := (Question.appendCap s.size 0 5).cut (w.tape w.drawn (Question.appendCap s.size 0 5))
def strCells (w : World) (s : ByteArray) : Array Value := (s.data.map fun b => Value.int .u8 b.toNat) ++ Array.replicate (strCap w s - s.size) (.int .u8 0)
def strW (w : World) (s : ByteArray) : World := (w.drew.alloc (.cells (strCells w s) 5)).freeze ⟨w.heap.size, (strCells w s).size, none⟩ 1
theorem run_str_bytes (s : ByteArray) (w : World) : (convert 9 59 (.string s)).run Tryz.prog w = .ok (.slice (some ⟨w.heap.size, 0, none⟩) s.size (strCap w s)) (strW w s) := by
 simp only [convert, Sem.run_bind, run_underlying Tryz.underStr, run_underlying Tryz.underBytes, run_underlying Tryz.underByte, Result.andThen_ok, Conv.stringToBytes, run_choose, Question.forced, newRow, run_newObj, Sem.run_pure, markStringish, run_shape, if_false, Bool.false_eq_true]
 have e : (w.drew.alloc (.cells (strCells w s) 5)).shape? w.heap.size = some (5, (strCells w s).size) := by
  have := blk_new w.drew (.cells (strCells w s) 5); simp only [World.size_drew] at this; simp only [World.shape?, this]
 simp only [World.alloc, World.drew, strCells, strCap] at e; rw [e]; rfl
theorem strCap_ge (w : World) (s : ByteArray) : s.size ≤ strCap w s := by simp [strCap, Question.cut]
theorem strCap_le (w : World) (s : ByteArray) (h : s.size ≤ maxLen) : strCap w s ≤ maxLen := by
 have hlt := Nat.mod_lt (w.tape w.drawn (Question.appendCap s.size 0 5)) (show 0 < 2 ^ 63 - s.size by simp only [maxLen] at h; omega); simp only [strCap, Question.cut, maxLen] at h ⊢; omega
theorem strCells_size (w : World) (s : ByteArray) : (strCells w s).size = strCap w s := by
 have := strCap_ge w s; have e : s.data.size = s.size := rfl; simp [strCells, e]; omega
theorem strW_blk (w : World) (s : ByteArray) : (strW w s).heap[w.heap.size]? = some (.cells (strCells w s) 5 ((strCells w s).size, (strCells w s).size + 1)) := by
 have := blk_new w.drew (.cells (strCells w s) 5); simp only [World.size_drew] at this; simp only [strW, World.freeze, Nat.succ_ne_zero, if_false, Array.getElem?_modify, if_true, this, Option.map_some]; simp
theorem strW_chg (w : World) (s : ByteArray) : Chg NoB w (strW w s) := by
 refine ⟨rfl, rfl, rfl, by simp [strW, World.freeze], fun k hk _ => ?_⟩; simp only [strW, World.freeze, Nat.succ_ne_zero, if_false, Array.getElem?_modify]; rw [if_neg (by omega)]; exact Below.heap_alloc _ _ _ hk
@[go_sem] theorem strW_size (w : World) (s : ByteArray) : (strW w s).heap.size = w.heap.size + 1 := by simp [strW, World.freeze]
theorem strW_row {W : World} {s : ByteArray} (hs : s.size ≤ 40000) (h : Chg NoB (strW w s) W) : Row W 5 1 (.slice (some ⟨w.heap.size, 0, none⟩) s.size (strCap w s)) s.size (s.toList.map vu8) := by
 have e : s.toList.length = s.size := by rw [ByteArray.toList_eq]; rfl
 refine ⟨by simp [e], .inr ⟨_, _, _, _, rfl, h.blk (strW_blk w s) id, .inr (Nat.le_refl _), strCap_ge w s, strCap_le w s (by unfold maxLen; omega), by rw [strCells_size]; omega, ?_⟩⟩; simp only [strCells, Array.toList_append, Nat.mul_one, Array.toList_map]; rw [List.take_append_of_le_length (by simp), ByteArray.toList_eq, List.take_of_length_le (by simp)]
theorem family1_hit (n fam : Int) (s : ByteArray) (p q : Nat) (w : World) (hp : w.heap[p]? = some (.cells #[.int .i64 n] 3)) (v : Value) (hq : w.heap[q]? = some (.cells #[v] 3)) (hne : q ≠ p) :
 Calls Tryz.prog 139 #[.int .i64 n, .int .i64 fam, .string s, .pointer (some ⟨p, 0, none⟩), .pointer (some ⟨q, 0, none⟩)] w fun e w' => e = .returned (.bool false) ∧ Chg (· = q) w w' ∧ w'.heap[q]? = some (.cells #[.int .i64 fam] 3) := by
 have R := cells_of hp; have l := blk_lt hp; have R2 := cells_of hq; have Z := free_of hq; have l2 := blk_lt hq; go_enter Tryz.func139, Tryz.ntmps139
 go_wp2_with fail
 have h2 := blk_set hq 0 (.int .i64 fam); simp only [List.setIfInBounds_toArray, List.set_cons_zero] at h2; have hp2 := blk_set_other (p := ⟨q, 0, none⟩) hp (Ne.symm hne) (.int .i64 fam); have X := (Chg.refl (· = q) w).setCell (p := ⟨q, 0, none⟩) (.inl rfl) (.int .i64 fam); generalize w.setCell ⟨q, 0, none⟩ (.int .i64 fam) = w1 at *; clear R R2 Z l l2; have R := cells_of hp2; have l := blk_lt hp2; go_wp2_with fail
 go_ret; exact ⟨by simp, X, h2⟩
theorem family1_miss (k n fam : Int) (s : ByteArray) (p q : Nat) (w : World) (hp : w.heap[p]? = some (.cells #[.int .i64 n] 3)) (h : k < n) :
 Calls Tryz.prog 139 #[.int .i64 k, .int .i64 fam, .string s, .pointer (some ⟨p, 0, none⟩), .pointer (some ⟨q, 0, none⟩)] w fun e w' => e = .returned (.bool true) ∧ w = w' := by
 have R := cells_of hp; have l := blk_lt hp
 have hne : (k == n) = false := by simp; omega
 go_enter Tryz.func139, Tryz.ntmps139
 go_wp2_with fail
 go_ret; exact ⟨by simp, rfl⟩
theorem family_at (i fam : Nat) (bs : List UInt8) (h : opT[i]? = some (fam, bs)) (w : World) :
 Calls Tryz.prog 131 #[.int .i64 ((i : Int) + 1)] w fun e w' => e = .returned (.int .i64 fam) ∧ Chg NoB w w' := by
 have hi := (List.getElem?_eq_some_iff.1 h).1; rw [opT_length] at hi
 have hE := hid_ (each_any 139 #[.pointer (some ⟨w.heap.size, 0, none⟩), .pointer (some ⟨w.heap.size + 1, 0, none⟩)] (fun _ _ => by kernel_rfl) (· = w.heap.size + 1)
  (fun k wr => k ≤ i ∧ wr.heap[w.heap.size]? = some (.cells #[.int .i64 ((i : Int) + 1)] 3) ∧ wr.heap[w.heap.size + 1]? = some (.cells #[.int .i64 0] 3))
  (fun _ wr => wr.heap[w.heap.size + 1]? = some (.cells #[.int .i64 fam] 3)) ((w.alloc (.cells #[.int .i64 ((i : Int) + 1)] 3)).alloc (.cells #[.int .i64 0] 3))
  (fun i e => by subst e; simp) (fun k a b h X => ⟨h.1, X.blk h.2.1 (by simp; omega), X.blk h.2.2 (by simp)⟩) (fun k hk w' hj X => by
   obtain ⟨j1, j2, j3⟩ := hj; have hk' : opT[k]? = some opT[k] := List.getElem?_eq_getElem _
   by_cases e : k = i
   · subst e; rw [hk'] at h; simp only [Option.some.injEq] at h; rw [h]; refine (family1_hit _ _ _ _ _ w' j2 _ j3 (by simp)).mono ?_; rintro e' w2 ⟨rfl, X2, hb⟩; exact ⟨X2, .inr ⟨rfl, hb⟩⟩
   · refine (family1_miss _ ((i : Int) + 1) _ _ _ _ w' j2 (by omega)).mono ?_; rintro e' w2 ⟨rfl, rfl⟩
     exact ⟨Chg.refl _ _, .inl ⟨rfl, by omega, j2, j3⟩⟩) ⟨by omega, by simpa using blk_alloc (blk_new w _) _, by simpa using blk_new1 w _ _⟩)
 go_enter Tryz.func131, Tryz.ntmps131
 go_wp2_with fail
 refine hE.out.mono ?_; rintro e w1 ⟨rfl, X, (⟨hj, -⟩ | ⟨k, -, hj⟩)⟩
 · rw [opT_length] at hj; omega
 · have R := cells_of hj; go_wp2_with fail
   go_ret; exact ⟨rfl, (((Chg.refl NoB w).alloc _).alloc _).trans' X fun i hi e => by omega⟩
end Go.Proofs.YtpiomapnmempoaaGreat
