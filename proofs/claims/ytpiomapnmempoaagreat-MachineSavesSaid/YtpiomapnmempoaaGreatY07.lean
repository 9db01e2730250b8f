/- Parts of the proof: Lat, Lpl, Lpt, Dpl, Dpm, Dob, Dos, Dk. -/
import Derived.Laws.CopyOwn
import Derived.StillTailTactics
import Derived.Test.YtpiomapnmempoaaGreatY06
namespace Go.Proofs.YtpiomapnmempoaaGreat
open Go.RowKit
variable {w w' w0 : World} {M : List (Nat × List C)} {K : List (Nat × Obj)} {N b hp : Nat} {L L' : List C} {o : O} {e : Int} {c : C}
def Ats (w0 w : World) (M : List (Nat × List C)) (K : List (Nat × Obj)) : Prop :=
 ∃ hs : List HS, hs.map (fun h => (h.hp, h.l)) = M ∧ (∀ h ∈ hs, HeapRep w h) ∧ Chg NoB w0 w ∧ (hs.flatMap HS.foot).Nodup ∧ (∀ b ∈ hs.flatMap HS.foot, w0.heap.size ≤ b) ∧
  (∀ q ∈ K, w.heap[q.1]? = some q.2 ∧ q.1 ∉ hs.flatMap HS.foot ∧ w0.heap.size ≤ q.1) ∧ (K.map Prod.fst).Nodup
theorem reps_lt {hs : List HS} (H : ∀ h ∈ hs, HeapRep w h) : ∀ b ∈ hs.flatMap HS.foot, b < w.heap.size := fun b hb => by
 obtain ⟨h, hh, hb⟩ := List.mem_flatMap.1 hb; exact (H h hh).lt b hb
theorem Ats.start (X : Chg NoB w0 w) : Ats w0 w [] [] :=
 ⟨[], rfl, fun h hh => by simp at hh, X, by simp, fun b hb => by simp at hb, fun q hq => by simp at hq, by simp⟩
theorem Ats.more (A : Ats w0 w M K) (h' : HS) (H' : HeapRep w' h') (X : Chg NoB w w') (F : ∀ b ∈ h'.foot, w.heap.size ≤ b) :
 Ats w0 w' ((h'.hp, h'.l) :: M) K := by
 obtain ⟨hs, rfl, H, X0, D, G, k, n⟩ := A; have lt := reps_lt H; refine ⟨h' :: hs, rfl, fun h hh => ?_, X0.pure X, ?_, fun b hb => ?_, fun q hq => ⟨X.blk (k q hq).1 id, fun hb => ?_, (k q hq).2.2⟩, n⟩
 · rcases List.mem_cons.1 hh with rfl | hh
   · exact H'
   · exact (H h hh).pure X
 · rw [List.flatMap_cons, List.nodup_append]; exact ⟨H'.apart, D, fun a ha b hb e => by have := F a ha; have := lt b hb; omega⟩
 · rw [List.flatMap_cons, List.mem_append] at hb
   rcases hb with hb | hb
   · have := F b hb; have := X0.size; omega
   · exact G b hb
 · rw [List.flatMap_cons, List.mem_append] at hb
   rcases hb with hb | hb
   · have := F _ hb; have := blk_lt (k q hq).1; omega
   · exact (k q hq).2.1 hb
theorem Ats.new (A : Ats w0 w M K) :
 Ats w0 (w.alloc (.cells #[.slice none 0 0, .int .i64 0] 84)) ((w.heap.size, []) :: M) K :=
 A.more ⟨w.heap.size, .slice none 0 0, []⟩ (HeapRep.new w) ((Chg.refl _ _).alloc _) fun b hb => by simp [HS.foot, Value.ownBlock] at hb; omega
theorem Ats.chg (A : Ats w0 w M K) : Chg NoB w0 w := by
 obtain ⟨h, -, -, X, -⟩ := A; exact X
theorem Ats.box (A : Ats w0 w M K) (q : Nat × Obj) (hq : q ∈ K) : w.heap[q.1]? = some q.2 := by
 obtain ⟨h, -, -, -, -, -, k, -⟩ := A; exact (k q hq).1
theorem Ats.box_ge (A : Ats w0 w M K) (q : Nat × Obj) (hq : q ∈ K) : w0.heap.size ≤ q.1 := by
 obtain ⟨h, -, -, -, -, -, k, -⟩ := A; exact (k q hq).2.2
theorem Ats.pure (A : Ats w0 w M K) (X : Chg NoB w w') : Ats w0 w' M K := by
 obtain ⟨h, h1, H, X0, D, F, k, n⟩ := A; exact ⟨h, h1, fun h hh => (H h hh).pure X, X0.pure X, D, F, fun q hq => ⟨X.blk (k q hq).1 id, (k q hq).2⟩, n⟩
theorem Ats.got (A : Ats w0 w M K) (X : Chg NoB w w') {b : Nat} {o : Obj} (hb : w'.heap[b]? = some o) (hn : w.heap.size ≤ b) : Ats w0 w' M ((b, o) :: K) := by
 obtain ⟨h, h1, H, X0, D, F, k, n⟩ := A; have lt := reps_lt H; refine ⟨h, h1, fun h hh => (H h hh).pure X, X0.pure X, D, F, fun q hq => ?_, ?_⟩
 · rcases List.mem_cons.1 hq with rfl | hq
   · exact ⟨hb, fun h' => by have := lt _ h'; simp only at this; omega, Nat.le_trans X0.size hn⟩
   · exact ⟨X.blk (k q hq).1 id, (k q hq).2⟩
 · rw [List.map_cons, List.nodup_cons]; refine ⟨fun hm => ?_, n⟩; obtain ⟨q, hq, e⟩ := List.mem_map.1 hm; have := blk_lt (k q hq).1; simp only at e; omega
theorem Ats.alloc (A : Ats w0 w M K) (o : Obj) : Ats w0 (w.alloc o) M ((w.heap.size, o) :: K) :=
 A.got ((Chg.refl _ _).alloc _) (blk_new w o) (Nat.le_refl _)
theorem Ats.put {cs : Array Value} {T : TypeId} {fz : Nat × Nat} (A : Ats w0 w M ((b, .cells cs T fz) :: K)) (i : Nat) (v : Value) :
 Ats w0 (w.setCell ⟨b, i, none⟩ v) M ((b, .cells (cs.setIfInBounds i v) T fz) :: K) := by
 obtain ⟨h, h1, H, X0, D, F, k, n⟩ := A; obtain ⟨kb, kn, kg⟩ := k _ (List.mem_cons_self ..); have X : Chg (· = b) w (w.setCell ⟨b, i, none⟩ v) := (Chg.refl (· = b) w).setCell (p := ⟨b, i, none⟩) (.inl rfl) v; refine ⟨h, h1, fun x hx => (H x hx).chg X fun c hc e => kn (List.mem_flatMap.2 ⟨x, hx, e ▸ hc⟩), X0.setCell (.inr kg) v, D, F, fun q hq => ?_, n⟩
 rcases List.mem_cons.1 hq with rfl | hq
 · exact ⟨blk_set kb i v, kn, kg⟩
 · refine ⟨X.blk (k q (List.mem_cons_of_mem _ hq)).1 fun e => ?_, (k q (List.mem_cons_of_mem _ hq)).2⟩; rw [List.map_cons, List.nodup_cons] at n; exact n.1 (List.mem_map.2 ⟨q, hq, e⟩)
theorem Ats.perm {K' : List (Nat × Obj)} (A : Ats w0 w M K) (hK : K.Perm K') : Ats w0 w M K' := by
 obtain ⟨h, h1, H, X0, D, F, k, n⟩ := A; exact ⟨h, h1, H, X0, D, F, fun q hq => k q (hK.mem_iff.2 hq), (hK.map _).nodup_iff.1 n⟩
theorem Ats.keep {K' : List (Nat × Obj)} (A : Ats w0 w M K) (hK : K'.Sublist K) : Ats w0 w M K' := by
 obtain ⟨h, h1, H, X0, D, F, k, n⟩ := A; exact ⟨h, h1, H, X0, D, F, fun q hq => k q (hK.subset hq), (hK.map _).nodup n⟩
theorem Ats.order {M' : List (Nat × List C)} (A : Ats w0 w M K) (hM : M.Perm M') : Ats w0 w M' K := by
 obtain ⟨hs, h1, H, X0, D, F, k, n⟩ := A
 obtain ⟨hs', hp, h2⟩ : ∃ hs', hs.Perm hs' ∧ hs'.map (fun h => (h.hp, h.l)) = M' := by
  subst h1; clear H D F k; generalize hm : hs.map (fun h : HS => (h.hp, h.l)) = M at hM
  induction hM generalizing hs with
  | nil => exact ⟨[], by simp at hm; simp [hm], rfl⟩
  | cons x _ ih =>
   obtain ⟨a, t, rfl, rfl, rfl⟩ := List.map_eq_cons_iff.1 hm; obtain ⟨t', p, e⟩ := ih t rfl; exact ⟨a :: t', p.cons a, by simp [e]⟩
  | swap x y l =>
   obtain ⟨a, t, rfl, rfl, hm'⟩ := List.map_eq_cons_iff.1 hm; obtain ⟨b, t', rfl, rfl, rfl⟩ := List.map_eq_cons_iff.1 hm'; exact ⟨b :: a :: t', List.Perm.swap .., rfl⟩
  | trans _ _ ih1 ih2 =>
   obtain ⟨t, p, e⟩ := ih1 hs hm; obtain ⟨t', p', e'⟩ := ih2 t e; exact ⟨t', p.trans p', e'⟩
 have hf := hp.flatMap_right HS.foot; exact ⟨hs', h2, fun h hh => H h (hp.mem_iff.2 hh), X0, hf.nodup_iff.1 D, fun b hb => F b (hf.mem_iff.2 hb), fun q hq => ⟨(k q hq).1, fun hb => (k q hq).2.1 (hf.mem_iff.2 hb), (k q hq).2.2⟩, n⟩
theorem Ats.drop {x : Nat × List C} (A : Ats w0 w (x :: M) K) : Ats w0 w M K := by
 obtain ⟨hs, h1, H, X0, D, F, k, n⟩ := A; obtain ⟨h, t, rfl, -, rfl⟩ := List.map_eq_cons_iff.1 h1; rw [List.flatMap_cons] at D
 exact ⟨t, rfl, fun x hx => H x (List.mem_cons_of_mem _ hx), X0, (List.nodup_append.1 D).2.1, fun b hb => F b (by rw [List.flatMap_cons, List.mem_append]; exact .inr hb),
  fun q hq => ⟨(k q hq).1, fun hb => (k q hq).2.1 (by rw [List.flatMap_cons, List.mem_append]; exact .inr hb), (k q hq).2.2⟩, n⟩
theorem Ats.does {f : Nat} {args : Array Value} {r : Value} (A : Ats w0 w ((hp, L) :: M) K)
 (hc : ∀ h : HS, h.hp = hp → h.l = L → HeapRep w h → Calls Tryz.prog f args w fun e w' => e = .returned r ∧ Next w h w' L') :
 Calls Tryz.prog f args w fun e w' => e = .returned r ∧ Ats w0 w' ((hp, L') :: M) K := by
 obtain ⟨hs, h1, H, X0, D, F, k, n⟩ := A; obtain ⟨h, t, rfl, h2, rfl⟩ := List.map_eq_cons_iff.1 h1; obtain ⟨h2, h3⟩ := Prod.mk.injEq .. ▸ h2
 refine (hc h h2 h3 (H h (List.mem_cons_self ..))).mono fun e w' ⟨he, hn⟩ => ⟨he, ?_⟩
 obtain ⟨h', e1, e2, H', X, F'⟩ := hn; rw [List.flatMap_cons, List.nodup_append] at D; obtain ⟨D1, D2, D3⟩ := D; have Ht : ∀ x ∈ t, HeapRep w x := fun x hx => H x (List.mem_cons_of_mem _ hx); have lt := reps_lt Ht; have F0 : ∀ b ∈ h.foot, w0.heap.size ≤ b := fun b hb => F b (by rw [List.flatMap_cons, List.mem_append]; exact .inl hb); have Ft : ∀ b ∈ t.flatMap HS.foot, w0.heap.size ≤ b := fun b hb => F b (by rw [List.flatMap_cons, List.mem_append]; exact .inr hb)
 have kn : ∀ q ∈ K, q.1 ∉ h.foot ∧ q.1 ∉ t.flatMap HS.foot := fun q hq => by
  have := (k q hq).2.1; rw [List.flatMap_cons, List.mem_append] at this; exact ⟨fun z => this (.inl z), fun z => this (.inr z)⟩
 refine ⟨h' :: t, by simp [e1, e2, h2], fun x hx => ?_, X0.trans' X (fun i hi hb => by have := F0 i hb; omega), ?_, fun b hb => ?_, fun q hq => ⟨X.blk (k q hq).1 (kn q hq).1, fun hb => ?_, (k q hq).2.2⟩, n⟩
 · rcases List.mem_cons.1 hx with rfl | hx
   · exact H'
   · exact (Ht x hx).chg X fun b hb hb' => D3 b hb' b (List.mem_flatMap.2 ⟨x, hx, hb⟩) rfl
 · rw [List.flatMap_cons, List.nodup_append]; refine ⟨H'.apart, D2, fun a ha b hb e => ?_⟩
   rcases F' a ha with q | q
   · exact D3 a q b hb e
   · have := lt b hb; omega
 · rw [List.flatMap_cons, List.mem_append] at hb
   rcases hb with hb | hb
   · have := X0.size
     rcases F' b hb with q | q
     · exact F0 b q
     · omega
   · exact Ft b hb
 · rw [List.flatMap_cons, List.mem_append] at hb
   rcases hb with hb | hb
   · rcases F' _ hb with e | e
     · exact (kn q hq).1 e
     · have := blk_lt (k q hq).1; omega
   · exact (kn q hq).2 hb
theorem Ats.rep (A : Ats w0 w M K) (hm : (hp, L) ∈ M) : ∃ h : HS, h.hp = hp ∧ h.l = L ∧ HeapRep w h := by
 obtain ⟨hs, rfl, H, -⟩ := A; obtain ⟨h, hh, e⟩ := List.mem_map.1 hm; obtain ⟨e1, e2⟩ := Prod.mk.injEq .. ▸ e; exact ⟨h, e1, e2, H h hh⟩
theorem Ats.asks {f : Nat} {args : Array Value} {r : Value} (A : Ats w0 w M K) (hm : (hp, L) ∈ M)
 (hc : ∀ h : HS, h.hp = hp → h.l = L → HeapRep w h → Calls Tryz.prog f args w fun e w' => e = .returned r ∧ Chg NoB w w') :
 Calls Tryz.prog f args w fun e w' => e = .returned r ∧ Ats w0 w' M K := by
 obtain ⟨h, h1, h2, H⟩ := A.rep hm
 exact (hc h h1 h2 H).mono fun e w' ⟨he, hn⟩ => ⟨he, A.pure hn⟩
theorem at_array (A : Ats w0 w ((hp, L) :: M) K) (n : Int) {L' : List C} {o : O} {e : Int} (hr : arrayH L n = (L', o, e)) :
 Calls Tryz.prog 71 #[ptr hp, .int .i64 n] w fun r w' => r = .returned (.tuple #[o.val, .int .i64 e]) ∧ Ats w0 w' ((hp, L') :: M) K :=
 A.does fun h h1 h2 H => by subst h1 h2; have := array_any h n w H; rwa [hr] at this
theorem at_string (A : Ats w0 w ((hp, L) :: M) K) (s : ByteArray) {L' : List C} {o : O} {e : Int} (hr : stringH L s = (L', o, e)) :
 Calls Tryz.prog 68 #[ptr hp, .string s] w fun r w' => r = .returned (.tuple #[o.val, .int .i64 e]) ∧ Ats w0 w' ((hp, L') :: M) K :=
 A.does fun h h1 h2 H => by subst h1 h2; have := string_any h s w H; rwa [hr] at this
theorem at_dict (A : Ats w0 w ((hp, L) :: M) K) (n : Int) {L' : List C} {o : O} {e : Int} (hr : dictH L n = (L', o, e)) :
 Calls Tryz.prog 57 #[ptr hp, .int .i64 n] w fun r w' => r = .returned (.tuple #[o.val, .int .i64 e]) ∧ Ats w0 w' ((hp, L') :: M) K :=
 A.does fun h h1 h2 H => by subst h1 h2; have := hdict_any h n w H; rwa [hr] at this
theorem at_set (A : Ats w0 w ((hp, L) :: M) K) (o : O) (i : Int) (x : O) {L' : List C} {e : Int} (hr : setH L o i x = (L', e)) :
 Calls Tryz.prog 61 #[ptr hp, o.val, .int .i64 i, x.val] w fun r w' => r = .returned (.int .i64 e) ∧ Ats w0 w' ((hp, L') :: M) K :=
 A.does fun h h1 h2 H => by subst h1 h2; have := set_any h o i x w H; rwa [hr] at this
theorem at_lock (A : Ats w0 w ((hp, L) :: M) K) (o : O) {L' : List C} {e : Int} (hr : lockH L o = (L', e)) :
 Calls Tryz.prog 39 #[ptr hp, o.val] w fun r w' => r = .returned (.int .i64 e) ∧ Ats w0 w' ((hp, L') :: M) K :=
 A.does fun h h1 h2 H => by subst h1 h2; have := lock_any h o w H; rwa [hr] at this
theorem at_get (A : Ats w0 w M K) (o : O) (i : Int) {o' : O} {e : Int} (hr : getH L o i = (o', e)) (hm : (hp, L) ∈ M := by first | exact List.mem_cons_self .. | exact List.mem_cons_of_mem _ (List.mem_cons_self ..) | assumption) :
 Calls Tryz.prog 72 #[ptr hp, o.val, .int .i64 i] w fun r w' => r = .returned (.tuple #[o'.val, .int .i64 e]) ∧ Ats w0 w' M K :=
 A.asks hm fun h h1 h2 H => by subst h1 h2; have := get_any h o i w H; rwa [hr] at this
theorem at_bytes (A : Ats w0 w M K) (o : O) {b : ByteArray} {e : Int} (hr : bytesH L o = (b, e)) (hm : (hp, L) ∈ M := by first | exact List.mem_cons_self .. | exact List.mem_cons_of_mem _ (List.mem_cons_self ..) | assumption) :
 Calls Tryz.prog 89 #[ptr hp, o.val] w fun r w' => r = .returned (.tuple #[.string b, .int .i64 e]) ∧ Ats w0 w' M K :=
 A.asks hm fun h h1 h2 H => by subst h1 h2; have := bytes_any h o w H; rwa [hr] at this
theorem at_cells (A : Ats w0 w M K) (hm : (hp, L) ∈ M := by first | exact List.mem_cons_self .. | exact List.mem_cons_of_mem _ (List.mem_cons_self ..) | assumption) :
 Calls Tryz.prog 195 #[ptr hp] w fun r w' => r = .returned (.int .i64 (L.length : Nat)) ∧ w = w' := by
 obtain ⟨h, rfl, rfl, H⟩ := A.rep hm; exact cells_any h w H
theorem at_items (A : Ats w0 w M K) (o : O) {l : List O} {e : Int} (hr : itemsH L o = (l, e)) (hl : 0 < l.length) (hm : (hp, L) ∈ M := by first | exact List.mem_cons_self .. | exact List.mem_cons_of_mem _ (List.mem_cons_self ..) | assumption) :
 Calls Tryz.prog 56 #[ptr hp, o.val] w fun r w' => ∃ g cap cur fz, r = .returned (.tuple #[.slice (some ⟨g, 0, none⟩) l.length cap, .int .i64 e]) ∧ l.length ≤ cap ∧ Ats w0 w' M ((g, .cells cur 49 fz) :: K) ∧
  ∀ i, i < l.length * 6 → cur[i]? = (l.flatMap O.cells)[i]? := by
 obtain ⟨h, rfl, rfl, H⟩ := A.rep hm; refine (items_any h o w H).mono ?_; rintro r w' ⟨v, rfl, X, own⟩; rw [hr] at own ⊢; obtain ⟨g, cap, cur, fz, rfl, hg, -, hcap, -, -, hc⟩ := (Row.of_owns (owns_base own (Nat.zero_le _))).some' hl; exact ⟨g, cap, cur, fz, rfl, hcap, A.got X hg (owns_ge own g (by simp [Value.ownBlock])).1, hc⟩
theorem at_copy (A : Ats w0 w M K) (hm : (hp, L) ∈ M := by first | exact List.mem_cons_self .. | exact List.mem_cons_of_mem _ (List.mem_cons_self ..) | assumption) :
 Calls Tryz.prog 34 #[ptr hp] w fun r w' => r = .returned (ptr w.heap.size) ∧ Ats w0 w' ((w.heap.size, L) :: M) K := by
 obtain ⟨h, rfl, rfl, H⟩ := A.rep hm; refine (copy_any h w H).mono ?_; rintro r w' ⟨rfl, h', e1, e2, H', X, F⟩; have := A.more h' H' X F; rw [e1, e2] at this; exact ⟨rfl, this⟩
theorem at_become {gp : Nat} {G : List C} (A : Ats w0 w ((hp, L) :: M) K) (hm : (gp, G) ∈ M) :
 Calls Tryz.prog 37 #[ptr hp, ptr gp] w fun r w' => r = .returned (.tuple #[]) ∧ Ats w0 w' ((hp, G) :: M) K := by
 refine A.does fun h e1 e2 H => ?_; obtain ⟨hs, h1, Hs, X0, D, -⟩ := A; obtain ⟨h0, t, rfl, h2, rfl⟩ := List.map_eq_cons_iff.1 h1; obtain ⟨h2, h3⟩ := Prod.mk.injEq .. ▸ h2; obtain ⟨g, hg, e⟩ := List.mem_map.1 hm; obtain ⟨rfl, rfl⟩ := Prod.mk.injEq .. ▸ e
 have hn : h.hp ∉ g.foot := fun hb => by
  rw [List.flatMap_cons, List.nodup_append] at D; exact D.2.2 h0.hp (by simp [HS.foot]) _ (List.mem_flatMap.2 ⟨g, hg, hb⟩) (by rw [h2, e1])
 have := become_any h.hp g w (Hs g (List.mem_cons_of_mem _ hg)) _ _ H.head hn; rw [e1] at this; refine this.mono ?_; rintro r w' ⟨rfl, h', i1, i2, H', -, X, F⟩; exact ⟨rfl, h', i1.trans e1.symm, i2, H', X.mono (fun i _ e => e ▸ by rw [← e1]; simp [HS.foot]), fun b hb => (F b hb).imp (fun e => by rw [e, ← e1]; simp [HS.foot]) id⟩
theorem at_may (A : Ats w0 w M K) (o : O) {b : Bool} (hr : mayH L o = b) (hm : (hp, L) ∈ M) :
 Calls Tryz.prog 60 #[ptr hp, o.val] w fun r w' => r = .returned (.bool b) ∧ Ats w0 w' M K :=
 A.asks hm fun h h1 h2 H => by subst h1 h2; have := hmay_any h o w H; rwa [hr] at this
theorem Ats.drew (A : Ats w0 w M K) : Ats w0 w.drew M K := A.pure (Chg.refl NoB w).drew
theorem Ats.cellsOf {g : Nat} {cs : Array Value} {T : TypeId} {fz : Nat × Nat} (h : (g, Obj.cells cs T fz) ∈ K) : ∀ W, Ats w0 W M K → ∀ i, W.cell? ⟨g, i, none⟩ = cs[i]? :=
 fun _W A i => cells_of (A.box _ h) i
theorem at_hnew (A : Ats w0 w M K) :
 Calls Tryz.prog 22 #[] w fun e w' => ∃ hp, e = .returned (ptr hp) ∧ Ats w0 w' ((hp, []) :: M) K :=
 (new_any w).mono fun _e _w' ⟨h1, h2⟩ => ⟨_, h1, h2 ▸ A.new⟩
theorem add_fits (L : List C) (c : C) (h1 : L.length < 2000) (h2 : used L + c.size ≤ 40000) : makeH L c = (L ++ [c], objOf L c, 0) := by
 have : addE L c = 0 := by unfold addE; rw [if_neg (by omega)]
 simp only [makeH, this, ne_eq, not_true_eq_false, if_false]
theorem row_item {cur : Array Value} {l : List O} (hc : ∀ i, i < l.length * 6 → cur[i]? = (l.flatMap O.cells)[i]?) {j : Nat} {o : O} (h : l[j]? = some o) :
 cur[j * 6]? = some (.int .i64 o.kind) ∧ cur[j * 6 + 1]? = some (.bool o.exec) ∧ cur[j * 6 + 2]? = some (.int .i64 o.n) ∧ cur[j * 6 + 3]? = some (.int .i64 o.pos) ∧ cur[j * 6 + 4]? = some (.int .i64 o.len) ∧ cur[j * 6 + 5]? = some (.string o.s) := by
 have hj : j < l.length := (List.getElem?_eq_some_iff.1 h).1
 have g : ∀ t, t < 6 → cur[j * 6 + t]? = o.cells[t]? := fun t ht => by
  rw [hc _ (by omega), flat_get O.cells 6 cells_length t ht, h]; rfl
 exact ⟨g 0 (by decide), g 1 (by decide), g 2 (by decide), g 3 (by decide), g 4 (by decide), g 5 (by decide)⟩
abbrev txt (l : List UInt8) : C := ⟨true, false, false, [], l⟩
theorem txt_size (l : List UInt8) : (txt l).size = l.length := by simp [C.size]
theorem size_toList (s : ByteArray) : s.toList.length = s.size := by rw [ByteArray.toList_eq]; rfl
abbrev numO (v : Int) : O := ⟨3, false, v, 0, 0, ⟨#[]⟩⟩
abbrev dicO (N : Int) : O := ⟨10, false, N, 0, 0, ⟨#[]⟩⟩
def pairsL (ps : List (O × O)) : List O := ps.flatMap fun p => [p.1, p.2]
theorem pairs_length : ∀ ps : List (O × O), (pairsL ps).length = 2 * ps.length
 | [] => rfl
 | p :: ps => by
  have := pairs_length ps; simp only [pairsL, List.flatMap_cons, List.length_append, List.length_cons, List.length_nil] at this ⊢; omega
theorem pairs_key : ∀ (ps : List (O × O)) (i : Nat), (pairsL ps)[2 * i]? = (ps[i]?).map Prod.fst
 | [], i => by simp [pairsL]
 | p :: ps, 0 => by simp [pairsL]
 | p :: ps, i + 1 => by
  have := pairs_key ps i; rw [show 2 * (i + 1) = 2 * i + 2 by omega]
  simpa [pairsL] using this
theorem pairs_val : ∀ (ps : List (O × O)) (i : Nat), (pairsL ps)[2 * i + 1]? = (ps[i]?).map Prod.snd
 | [], i => by simp [pairsL]
 | p :: ps, 0 => by simp [pairsL]
 | p :: ps, i + 1 => by
  have := pairs_val ps i; rw [show 2 * (i + 1) + 1 = 2 * i + 1 + 2 by omega]
  simpa [pairsL] using this
def dItems (ps : List (O × O)) (room : Nat) : List O := numO ps.length :: (pairsL ps ++ List.replicate (2 * (room - ps.length)) nullO)
abbrev dcellk (lk : Bool) (ps : List (O × O)) (room : Nat) : C := ⟨false, true, lk, dItems ps room, []⟩
abbrev dcell (ps : List (O × O)) (room : Nat) : C := dcellk false ps room
theorem dItems_length (ps : List (O × O)) (room : Nat) (h : ps.length ≤ room) : (dItems ps room).length = 2 * room + 1 := by
 simp [dItems, pairs_length]; omega
theorem dItems_at (ps : List (O × O)) (room : Nat) (h : ps.length ≤ room) (j : Nat) (hj : j < 2 * room + 1) :
 (dItems ps room)[j]? = some (if j = 0 then numO ps.length else match ps[(j - 1) / 2]? with | none => nullO | some p => if j % 2 = 1 then p.1 else p.2) := by
 cases j with
 | zero => simp [dItems]
 | succ j =>
  rw [if_neg (by omega)]; simp only [dItems, List.getElem?_cons_succ, Nat.add_sub_cancel]
  obtain ⟨q, hq⟩ : ∃ q, j = 2 * q ∨ j = 2 * q + 1 := ⟨j / 2, by omega⟩
  by_cases hl : q < ps.length
  · rw [List.getElem?_append_left (by rw [pairs_length]; omega)]
    rcases hq with rfl | rfl
    · rw [pairs_key, show 2 * q / 2 = q by omega, List.getElem?_eq_getElem hl]
      have em : (2 * q + 1) % 2 = 1 := by omega
      simp [em]
    · rw [pairs_val, show (2 * q + 1) / 2 = q by omega, List.getElem?_eq_getElem hl]
      have em : ¬ (2 * q + 1 + 1) % 2 = 1 := by omega
      simp [em]
  · have hn : ps[j / 2]? = none := List.getElem?_eq_none (by omega); rw [hn, List.getElem?_append_right (by rw [pairs_length]; omega), pairs_length, List.getElem?_replicate, if_pos (by omega)]
theorem dItems_ext (l : List O) (ps : List (O × O)) (room : Nat) (h : ps.length ≤ room) (hl : l.length = 2 * room + 1)
 (he : ∀ j, j < 2 * room + 1 → l[j]? = some (if j = 0 then numO ps.length else match ps[(j - 1) / 2]? with | none => nullO | some p => if j % 2 = 1 then p.1 else p.2)) : l = dItems ps room := by
 apply List.ext_getElem?
 intro j
 by_cases hj : j < 2 * room + 1
 · rw [he j hj, dItems_at ps room h j hj]
 · rw [List.getElem?_eq_none (by omega), List.getElem?_eq_none (by rw [dItems_length ps room h]; omega)]
theorem dItems_set (ps : List (O × O)) (room i : Nat) (h : ps.length ≤ room) (k v w : O) (hi : ps[i]? = some (k, w)) : (dItems ps room).set (2 * i + 2) v = dItems (ps.set i (k, v)) room := by
 have hlt : i < ps.length := (List.getElem?_eq_some_iff.1 hi).1; refine dItems_ext _ _ _ (by simpa using h) (by simp [dItems_length ps room h]) fun j hj => ?_; rw [List.getElem?_set, dItems_length ps room h]
 by_cases e : 2 * i + 2 = j
 · subst e; rw [if_pos rfl, if_pos hj, if_neg (by omega), show (2 * i + 2 - 1) / 2 = i by omega]; simp [hlt]
 · rw [if_neg e, dItems_at ps room h j hj]; simp only [List.length_set]
   by_cases e0 : j = 0
   · rw [if_pos e0, if_pos e0]
   · rw [if_neg e0, if_neg e0, List.getElem?_set]
     by_cases e1 : i = (j - 1) / 2
     · rw [if_pos e1, if_pos (by omega), ← e1, hi]
       have : j % 2 = 1 := by omega
       simp [this]
     · rw [if_neg e1]
theorem dItems_push (ps : List (O × O)) (room : Nat) (h : ps.length < room) (k v : O) : (((dItems ps room).set (2 * ps.length + 1) k).set (2 * ps.length + 2) v).set 0 (numO (ps.length + 1 : Int)) = dItems (ps ++ [(k, v)]) room := by
 refine dItems_ext _ _ _ (by simp; omega) (by simp [dItems_length ps room (by omega)]) fun j hj => ?_; rw [List.getElem?_set, List.getElem?_set, List.getElem?_set]; simp only [List.length_set, dItems_length ps room (by omega)]
 by_cases e0 : 0 = j
 · subst e0; simp
 rw [if_neg e0, if_neg (show ¬ j = 0 by omega)]
 by_cases e1 : 2 * ps.length + 2 = j
 · rw [if_pos e1, if_pos (by omega), show (j - 1) / 2 = ps.length by omega]
   have : ¬ j % 2 = 1 := by omega
   simp [this]
 rw [if_neg e1]
 by_cases e2 : 2 * ps.length + 1 = j
 · rw [if_pos e2, if_pos (by omega), show (j - 1) / 2 = ps.length by omega]
   have : j % 2 = 1 := by omega
   simp [this]
 rw [if_neg e2, dItems_at ps room (by omega) j hj, if_neg (show ¬ j = 0 by omega)]
 by_cases hlt : (j - 1) / 2 < ps.length
 · rw [List.getElem?_append_left hlt]
 · rw [List.getElem?_eq_none (by omega), List.getElem?_eq_none (by simp; omega)]
structure DicAt (L : List C) (N : Nat) (c : C) : Prop where
 cell : L[N]? = some c
 text : c.text = false
 dict : c.dict = true
 free : c.locked = c.locked
 room : c.items.length ≤ 40000
 place : N ≤ 40000
theorem DicAt.size (D : DicAt L N c) : c.size = c.items.length := by simp [C.size, D.text]
theorem DicAt.kind (D : DicAt L N c) : c.kind = 10 := by simp [C.kind, D.text, D.dict]
theorem DicAt.lt (D : DicAt L N c) : N < L.length := (List.getElem?_eq_some_iff.1 D.cell).1
theorem DicAt.may (D : DicAt L N c) : mayH L (dicO N) = true := by
 have h1 := D.cell; have h2 := D.lt; have h3 := D.place; have h4 := D.kind; simp [mayH, held, mayO, eqO, bareO, O.nil, h1, h4]
 omega
theorem DicAt.find (D : DicAt L N c) : findE L (dicO N) = 0 := by
 have := D.may; simp [findE, this, held]
theorem DicAt.sizeOf (D : DicAt L N c) : sizeH L (dicO N) = ((c.items.length : Int), 0) := by
 have h1 := D.cell; have h2 := D.size; unfold sizeH; rw [D.find]; simp [h1, lenOf, h2]
theorem DicAt.get (D : DicAt L N c) (i : Int) (h0 : 0 ≤ i) (x : O) (hx : c.items[i.toNat]? = some x) : getH L (dicO N) i = (x, 0) := by
 have h1 := D.cell; have h2 := D.size; have h3 := D.text; have hl := (List.getElem?_eq_some_iff.1 hx).1; unfold getH; rw [D.find]; simp only [ne_eq, not_true_eq_false, if_false, Int.toNat_natCast, h1, lenOf, if_true, h2, h3, atOf, Int.zero_add, Bool.false_eq_true]; rw [if_neg (by omega), List.getD_eq_getElem?_getD, hx]; rfl
theorem DicAt.set (D : DicAt L N c) (i : Int) (h0 : 0 ≤ i) (h1 : i < c.items.length) (x : O) (hx : mayH L x = true) (e4 : c.locked = false := by rfl) :
 setH L (dicO N) i x = (L.set N { c with items := c.items.set i.toNat x }, 0) := by
 have e1 := D.cell; have e2 := D.size; have e3 := D.text; unfold setH; rw [D.find]; simp only [ne_eq, not_true_eq_false, if_false, Int.toNat_natCast, e1, lenOf, if_true, e2, e3, e4, atOf, Int.zero_add, Bool.false_eq_true, hx, Bool.true_eq_false]; rw [if_neg (by omega)]
theorem DicAt.put (D : DicAt L N c) (c' : C) (h1 : c'.text = false) (h2 : c'.dict = true) (h3 : c'.locked = c'.locked) (h4 : c'.items.length = c.items.length) : DicAt (L.set N c') N c' :=
 ⟨by rw [List.getElem?_set, if_pos rfl, if_pos D.lt], h1, h2, h3, by rw [h4]; exact D.room, D.place⟩
theorem may_put (L : List C) (N : Nat) (c c' : C) (hc : L[N]? = some c) (hk : c'.kind = c.kind) (hs : c'.size = c.size) (o : O) : mayH (L.set N c') o = mayH L o := by
 unfold mayH
 congr 2
 simp only [List.length_set, List.getElem?_set]
 by_cases e : N = o.n.toNat
 · have hl := (List.getElem?_eq_some_iff.1 hc).1; rw [if_pos e, if_pos hl, ← e, hc]; simp only [hk, hs]
 · rw [if_neg e]
theorem set_set_same (L : List C) (N : Nat) (c c' : C) : (L.set N c).set N c' = L.set N c' := by simp
theorem at_size (A : Ats w0 w M K) (o : O) {n e : Int} (hr : sizeH L o = (n, e)) (hm : (hp, L) ∈ M) :
 Calls Tryz.prog 117 #[ptr hp, o.val] w fun r w' => r = .returned (.tuple #[.int .i64 n, .int .i64 e]) ∧ Ats w0 w' M K :=
 A.asks hm fun h h1 h2 H => by subst h1 h2; have := hsize_any h o w H; rwa [hr] at this
def sizeO (o : O) : Int × Bool := if mayO o = false then (0, false) else if o.kind = 3 then (o.n * 65536, true) else if o.kind = 4 then (o.n, true) else (0, false)
def unO (o : O) : O := ⟨o.kind, false, o.n, o.pos, o.len, o.s⟩
def sameO (a b : O) : Bool := if (sizeO a).2 = true ∧ (sizeO b).2 = true then decide ((sizeO a).1 = (sizeO b).1) else eqO (unO a) (unO b)
theorem sizeO_num (o : O) (h : (sizeO o).2 = true) : o.kind = 3 ∨ o.kind = 4 := by
 unfold sizeO at h; split at h
 · simp at h
 · split at h
   · left; assumption
   · split at h
     · right; assumption
     · simp at h
theorem same_not (x k : O) (h1 : ¬ (x.kind = k.kind ∧ x.s = k.s)) (h2 : ¬ k.kind = 3) (h3 : ¬ k.kind = 4) : sameO x k = false := by
 unfold sameO; rw [if_neg (fun h => (sizeO_num k h.2).elim h2 h3)]; refine eqO_ne fun e => h1 ?_; simp only [unO, O.mk.injEq] at e; exact ⟨e.1, e.2.2.2.2.2⟩
def keyD (L : List C) (o : O) : O × Int :=
 if o.kind = 1 then (O.nil, 6) else if mayH L o = false then (O.nil, 1) else if o.kind = 8 then
  if 100 < ((bytesH L o).1.size : Int) then (O.nil, 5) else (⟨5, false, 0, 0, 0, (bytesH L o).1⟩, 0)
 else (unO o, 0)
def PlaceS (ps : List (O × O)) (k : O) (i : Nat) (b : Bool) : Prop :=
 (b = true ∧ (∃ p, ps[i]? = some p ∧ sameO p.1 k = true) ∧ ∀ (j : Nat) (p : O × O), j < i → ps[j]? = some p → sameO p.1 k = false) ∨ (b = false ∧ i = 0 ∧ ∀ (j : Nat) (p : O × O), ps[j]? = some p → sameO p.1 k = false)
theorem mayO_int (o : O) (h : mayO o = true) (hk : o.kind = 3) : -2147483647 ≤ o.n ∧ o.n ≤ 2147483647 := by
 obtain ⟨k, ex, n, p, le, s⟩ := o; simp only at hk; subst hk; simp [mayO] at h
 exact h.2
set_option maxRecDepth 100000 in
set_option maxHeartbeats 1000000 in
theorem osize_any (o : O) (w : World) : Calls Tryz.prog 138 #[o.val] w fun e w' => e = .returned (.tuple #[.int .i64 (sizeO o).1, .bool (sizeO o).2]) ∧ Chg NoB w w' := by
 have hi := mayO_int o
 have hr : sizeO o = if mayO o = false then (0, false) else if o.kind = 3 then (o.n * 65536, true) else if o.kind = 4 then (o.n, true) else (0, false) := rfl
 have HM := fun w' => may_any o w'; obtain ⟨k, ex, n, p, le, s⟩ := o; simp only at hi hr; generalize mayO ⟨k, ex, n, p, le, s⟩ = b at *; have HR := Hid.mk' hr; clear hr; have X1 := (Chg.refl NoB w).alloc (.cells #[.int .i64 k, .bool ex, .int .i64 n, .int .i64 p, .int .i64 le, .string s] 49); have hB := blk_new w (.cells #[.int .i64 k, .bool ex, .int .i64 n, .int .i64 p, .int .i64 le, .string s] 49); go_enter Tryz.func138, Tryz.ntmps138
 go_wp2_with fail
 refine (HM _).mono ?_; rintro e w2 ⟨rfl, hb2⟩; have R := cells_of (hb2.blk hB id); have XX := X1.pure hb2; clear HM X1 hB hb2
 cases b with
 | false =>
  clear hi; go_wp2
  go_ret2
  rw [HR.out]; exact ⟨rfl, XX⟩
 | true =>
  by_cases h3 : k = 3
  · obtain ⟨hi1, hi2⟩ := hi rfl h3; subst h3; clear hi; go_wp2
    go_ret2
    rw [HR.out]; exact ⟨by simp, XX⟩
  · clear hi
    have b3 : (k == 3) = false := by simpa using h3
    by_cases h4 : k = 4
    · subst h4; go_wp2
      go_ret2
      rw [HR.out]; exact ⟨by simp, XX⟩
    · have b4 : (k == 4) = false := by simpa using h4
      go_wp2
      go_ret2
      rw [HR.out]; exact ⟨by simp [h3, h4], XX⟩
set_option maxRecDepth 100000 in
set_option maxHeartbeats 1000000 in
theorem onumbers_any (a b : O) (w : World) : Calls Tryz.prog 130 #[a.val, b.val] w fun e w' => e = .returned (.tuple #[.int .i64 (sizeO a).1, .int .i64 (sizeO b).1, .bool ((sizeO a).2 && (sizeO b).2)]) ∧ Chg NoB w w' := by
 have HA := fun w' => osize_any a w'; have HB := fun w' => osize_any b w'; generalize sizeO a = sa at *; generalize sizeO b = sb at *; obtain ⟨x, p⟩ := sa; obtain ⟨y, q⟩ := sb; obtain ⟨k, ex, n, c, le, s⟩ := a; obtain ⟨k', ex', n', c', le', s'⟩ := b; simp only at HA HB; have X1 := ((Chg.refl NoB w).alloc (.cells #[.int .i64 k, .bool ex, .int .i64 n, .int .i64 c, .int .i64 le, .string s] 49)).alloc (.cells #[.int .i64 k', .bool ex', .int .i64 n', .int .i64 c', .int .i64 le', .string s'] 49); have hB1 := blk_new1 w (.cells #[.int .i64 k, .bool ex, .int .i64 n, .int .i64 c, .int .i64 le, .string s] 49) (.cells #[.int .i64 k', .bool ex', .int .i64 n', .int .i64 c', .int .i64 le', .string s'] 49); go_enter Tryz.func130, Tryz.ntmps130
 go_wp2_with fail
 refine (HA _).mono ?_; rintro e w2 ⟨rfl, hb2⟩; have R1 := cells_of (hb2.blk hB1 id); have X2 := X1.pure hb2; clear HA X1 hB1 hb2; go_wp2_with fail
 refine (HB _).mono ?_; rintro e w3 ⟨rfl, hb3⟩; clear HB R1
 cases p
 all_goals
  go_wp2
  go_ret3; exact ⟨by simp, X2.pure hb3⟩
set_option maxRecDepth 100000 in
set_option maxHeartbeats 2000000 in
theorem osame_any (a b : O) (w : World) : Calls Tryz.prog 118 #[a.val, b.val] w fun e w' => e = .returned (.bool (sameO a b)) ∧ Chg NoB w w' := by
 have HN := fun w' => onumbers_any a b w'
 have hr : sameO a b = if (sizeO a).2 = true ∧ (sizeO b).2 = true then decide ((sizeO a).1 = (sizeO b).1) else eqO (unO a) (unO b) := rfl
 generalize sizeO a = sa at *; generalize sizeO b = sb at *; obtain ⟨x, p⟩ := sa; obtain ⟨y, q⟩ := sb; obtain ⟨k, ex, n, c, le, s⟩ := a; obtain ⟨k', ex', n', c', le', s'⟩ := b; simp only [unO] at HN hr; have HR := Hid.mk' hr; clear hr; have X1 := ((Chg.refl NoB w).alloc (.cells #[.int .i64 k, .bool ex, .int .i64 n, .int .i64 c, .int .i64 le, .string s] 49)).alloc (.cells #[.int .i64 k', .bool ex', .int .i64 n', .int .i64 c', .int .i64 le', .string s'] 49); have hB0 := blk_alloc (blk_new w (.cells #[.int .i64 k, .bool ex, .int .i64 n, .int .i64 c, .int .i64 le, .string s] 49)) (.cells #[.int .i64 k', .bool ex', .int .i64 n', .int .i64 c', .int .i64 le', .string s'] 49); have hB1 := blk_new1 w (.cells #[.int .i64 k, .bool ex, .int .i64 n, .int .i64 c, .int .i64 le, .string s] 49) (.cells #[.int .i64 k', .bool ex', .int .i64 n', .int .i64 c', .int .i64 le', .string s'] 49); go_enter Tryz.func118, Tryz.ntmps118
 go_wp2_with fail
 refine (HN _).mono ?_; rintro e w2 ⟨rfl, hb2⟩; have R0 := cells_of (hb2.blk hB0 id); have R1 := cells_of (hb2.blk hB1 id); have Z0 := free_of (hb2.blk hB0 id); have Z1 := free_of (hb2.blk hB1 id); have l0 := blk_lt (hb2.blk hB0 id); have l1 := blk_lt (hb2.blk hB1 id); have XX := X1.pure hb2; clear HN X1 hB0 hB1 hb2
 by_cases hpq : p = true ∧ q = true
 · obtain ⟨rfl, rfl⟩ := hpq; go_wp2
   go_ret; rw [HR.out]; exact ⟨by simp; rfl, XX⟩
 · have hb : (p && q) = false := by cases p <;> cases q <;> simp_all
   go_wp2
   go_ret; rw [HR.out, if_neg hpq]; refine ⟨rfl, ?_⟩
   (repeat' (first | with_reducible assumption | with_reducible refine Chg.alloc ?_ _ | with_reducible refine Chg.drew ?_ | with_reducible refine Chg.drewN ?_ _ | with_reducible refine Chg.setCell ?_ (Or.inr ?_) _ | exact Nat.le_refl _ | exact Nat.le_add_right _ _ | (simp; done) | (simp; omega)))
theorem Ats.loses {K1 : List (Nat × Obj)} (A : Ats w0 w M (K1 ++ K)) (X : Chg (· ∈ K1.map Prod.fst) w w') : Ats w0 w' M K := by
 obtain ⟨h, h1, H, X0, D, F, k, n⟩ := A
 have kk : ∀ b ∈ K1.map Prod.fst, b ∉ h.flatMap HS.foot ∧ w0.heap.size ≤ b := fun b hb => by
  obtain ⟨q, hq, rfl⟩ := List.mem_map.1 hb; exact (k q (List.mem_append_left _ hq)).2
 rw [List.map_append, List.nodup_append] at n
 exact ⟨h, h1, fun x hx => (H x hx).chg X fun c hc e => (kk c e).1 (List.mem_flatMap.2 ⟨x, hx, hc⟩), X0.trans' X (fun i hi e => by have := (kk i e).2; omega), D, F,
  fun q hq => ⟨X.blk (k q (List.mem_append_right _ hq)).1 (fun e => n.2.2 _ e _ (List.mem_map.2 ⟨q, hq, rfl⟩) rfl), (k q (List.mem_append_right _ hq)).2⟩, n.2.1⟩
theorem Chg.at {S : Nat → Prop} {a : World} (hb : S b) (h : Chg S a w) (i : Nat) (u : Value) : Chg S a (w.setCell ⟨b, i, none⟩ u) := h.setCell (p := ⟨b, i, none⟩) (.inl hb) u
theorem at_same (A : Ats w0 w M K) (a b : O) :
 Calls Tryz.prog 118 #[a.val, b.val] w fun r w' => r = .returned (.bool (sameO a b)) ∧ Ats w0 w' M K :=
 (osame_any a b w).mono fun _r _w' ⟨h1, h2⟩ => ⟨h1, A.pure h2⟩
set_option maxRecDepth 100000 in
set_option maxHeartbeats 4000000 in
theorem at_dkey (A : Ats w0 w M K) (o : O) {key : O} {e : Int} (hr : keyD L o = (key, e)) (hm : (hp, L) ∈ M) :
 Calls Tryz.prog 93 #[ptr hp, o.val] w fun r w' => r = .returned (.tuple #[key.val, .int .i64 e]) ∧ Ats w0 w' M K := by
 obtain ⟨bs, hbs⟩ : ∃ b, bytesH L o = b := ⟨_, rfl⟩
 obtain ⟨by', be⟩ := bs; have HMay := fun {w' : World} {K' : List (Nat × Obj)} (A' : Ats w0 w' M K') => at_may A' o (b := mayH L o) rfl hm; have HByt := fun {w' : World} {K' : List (Nat × Obj)} (A' : Ats w0 w' M K') => at_bytes A' o hbs hm; unfold keyD at hr; rw [hbs] at hr; obtain ⟨k, ex, n, p, le, s⟩ := o; simp only [unO] at hr; have A1 := (A.alloc (.cells #[.int .i64 k, .bool ex, .int .i64 n, .int .i64 p, .int .i64 le, .string s] 49)).alloc (.cells #[.int .i64 0, .bool false, .int .i64 0, .int .i64 0, .int .i64 0, .string ⟨#[]⟩] 49); simp only [World.size_alloc] at A1
 by_cases h1 : k = 1
 · rw [if_pos h1] at hr; obtain ⟨rfl, rfl⟩ := Prod.mk.injEq .. ▸ hr; subst h1; go_enter Tryz.func93, Tryz.ntmps93
   go_wp2
   refine bodyPost_ret (v := .tuple #[O.nil.val, .int .i64 6]) (by simp [results, Tryz.results93, go_sem, O.nil]) rfl ⟨rfl, A.pure ?_⟩
   (repeat' (first | with_reducible assumption | with_reducible refine Chg.alloc ?_ _ | with_reducible refine Chg.drew ?_ | with_reducible refine Chg.drewN ?_ _ | with_reducible refine Chg.setCell ?_ (Or.inr ?_) _ | exact Nat.le_refl _ | exact Nat.le_add_right _ _ | (simp; done) | (simp; omega)))
   exact Chg.refl _ _
 rw [if_neg h1] at hr
 have b1 : (k == 1) = false := by simpa using h1
 by_cases h2 : mayH L ⟨k, ex, n, p, le, s⟩ = false
 · rw [if_pos h2] at hr; obtain ⟨rfl, rfl⟩ := Prod.mk.injEq .. ▸ hr; clear HByt; go_enter Tryz.func93, Tryz.ntmps93
   go_wp2_with fail
   refine (HMay A1).mono ?_; rintro e w2 ⟨rfl, A2⟩; rw [h2]; have R3 := cells_of (A2.box _ (List.mem_cons_of_mem _ (List.mem_cons_self ..))); have R4 := cells_of (A2.box _ (List.mem_cons_self ..)); have Z4 := free_of (A2.box _ (List.mem_cons_self ..)); have l4 := blk_lt (A2.box _ (List.mem_cons_self ..)); simp only at l4; clear HMay A1; go_wp2
   refine bodyPost_ret (v := .tuple #[O.nil.val, .int .i64 1]) (by simp [results, Tryz.results93, go_sem, R4, cell_set_at, O.nil]) rfl ⟨rfl, A2.loses (K1 := [_, _]) ?_⟩
   (repeat' (first | with_reducible exact Chg.refl _ _ | with_reducible refine Chg.drewN ?_ _ | with_reducible refine Chg.drew ?_ | with_reducible refine Chg.alloc ?_ _ | with_reducible refine Chg.at (by simp) ?_ _ _))
 rw [if_neg h2] at hr
 have h3 : mayH L ⟨k, ex, n, p, le, s⟩ = true := by simpa using h2
 rw [h3] at HMay
 by_cases h8 : k = 8
 · rw [if_pos h8] at hr; subst h8
   by_cases hl : 100 < (by'.size : Int)
   · rw [if_pos hl] at hr; obtain ⟨rfl, rfl⟩ := Prod.mk.injEq .. ▸ hr; go_enter Tryz.func93, Tryz.ntmps93
     go_wp2_with fail
     refine (HMay A1).mono ?_; rintro e w2 ⟨rfl, A2⟩; have R3 := cells_of (A2.box _ (List.mem_cons_of_mem _ (List.mem_cons_self ..))); go_wp2_with fail
     refine (HByt A2).mono ?_; rintro e w3 ⟨rfl, A3⟩; have R4 := cells_of (A3.box _ (List.mem_cons_self ..)); have Z4 := free_of (A3.box _ (List.mem_cons_self ..)); have l4 := blk_lt (A3.box _ (List.mem_cons_self ..)); simp only at l4; clear HMay HByt A1 A2 R3; go_wp2
     refine bodyPost_ret (v := .tuple #[O.nil.val, .int .i64 5]) (by simp [results, Tryz.results93, go_sem, R4, cell_set_at, O.nil]) rfl ⟨rfl, A3.loses (K1 := [_, _]) ?_⟩
     (repeat' (first | with_reducible exact Chg.refl _ _ | with_reducible refine Chg.drewN ?_ _ | with_reducible refine Chg.drew ?_ | with_reducible refine Chg.alloc ?_ _ | with_reducible refine Chg.at (by simp) ?_ _ _))
   · rw [if_neg hl] at hr; obtain ⟨rfl, rfl⟩ := Prod.mk.injEq .. ▸ hr; go_enter Tryz.func93, Tryz.ntmps93
     go_wp2_with fail
     refine (HMay A1).mono ?_; rintro e w2 ⟨rfl, A2⟩; have R3 := cells_of (A2.box _ (List.mem_cons_of_mem _ (List.mem_cons_self ..))); go_wp2_with fail
     refine (HByt A2).mono ?_; rintro e w3 ⟨rfl, A3⟩; have R4 := cells_of (A3.box _ (List.mem_cons_self ..)); have Z4 := free_of (A3.box _ (List.mem_cons_self ..)); have l4 := blk_lt (A3.box _ (List.mem_cons_self ..)); simp only at l4; clear HMay HByt A1 A2 R3; go_wp2
     refine bodyPost_ret (v := .tuple #[(⟨5, false, 0, 0, 0, by'⟩ : O).val, .int .i64 0]) (by simp [results, Tryz.results93, go_sem, R4, cell_set_at]) rfl ⟨rfl, A3.loses (K1 := [_, _]) ?_⟩
     (repeat' (first | with_reducible exact Chg.refl _ _ | with_reducible refine Chg.drewN ?_ _ | with_reducible refine Chg.drew ?_ | with_reducible refine Chg.alloc ?_ _ | with_reducible refine Chg.at (by simp) ?_ _ _))
 · rw [if_neg h8] at hr; obtain ⟨rfl, rfl⟩ := Prod.mk.injEq .. ▸ hr
   have b8 : (k == 8) = false := by simpa using h8
   clear HByt; go_enter Tryz.func93, Tryz.ntmps93
   go_wp2_with fail
   refine (HMay A1).mono ?_; rintro e w2 ⟨rfl, A2⟩; have R3 := cells_of (A2.box _ (List.mem_cons_of_mem _ (List.mem_cons_self ..))); have Z3 := free_of (A2.box _ (List.mem_cons_of_mem _ (List.mem_cons_self ..))); have R4 := cells_of (A2.box _ (List.mem_cons_self ..)); have Z4 := free_of (A2.box _ (List.mem_cons_self ..)); have l3 := blk_lt (A2.box _ (List.mem_cons_of_mem _ (List.mem_cons_self ..))); have l4 := blk_lt (A2.box _ (List.mem_cons_self ..)); simp only at l3 l4; clear HMay A1; go_wp2
   refine bodyPost_ret (v := .tuple #[(⟨k, false, n, p, le, s⟩ : O).val, .int .i64 0]) (by simp [results, Tryz.results93, go_sem, R4, cell_set_at]) rfl ⟨rfl, A2.loses (K1 := [_, _]) ?_⟩
   (repeat' (first | with_reducible exact Chg.refl _ _ | with_reducible refine Chg.drewN ?_ _ | with_reducible refine Chg.drew ?_ | with_reducible refine Chg.alloc ?_ _ | with_reducible refine Chg.at (by simp) ?_ _ _))
set_option maxRecDepth 100000 in
set_option maxHeartbeats 4000000 in
theorem at_dopen {lk : Bool} (A : Ats w0 w M K) (hm : (hp, L) ∈ M) (N : Nat) (ps : List (O × O)) (room : Nat) (D : DicAt L N (dcellk lk ps room)) (h : ps.length ≤ room) (hr : room ≤ 1000) :
 Calls Tryz.prog 92 #[ptr hp, (dicO N).val] w fun r w' => r = .returned (.tuple #[.int .i64 ps.length, .int .i64 room, .int .i64 0]) ∧ Ats w0 w' M K := by
 have e0 : (dcell ps room).items[(0 : Int).toNat]? = some (numO ps.length) := by simp [dItems]
 have S1 := D.sizeOf; have S2 := D.get 0 (by omega) _ e0
 have e1 : ((dItems ps room).length : Int) = 2 * room + 1 := by rw [dItems_length ps room h]; omega
 simp only at S1; rw [e1] at S1
 have e2 : IntKind.i64.wrap (2 * (room : Int) + 1 - 1) = 2 * room := by rw [IntWalk.i64_in _ (by omega)]; omega
 have e3 : wrap64 (2 * (room : Int) + 1 - 1) = 2 * room := by rw [IntWalk.wrap64_in _ (by omega)]; omega
 have hN := D.place; have A1 := A.alloc (.cells #[.int .i64 10, .bool false, .int .i64 N, .int .i64 0, .int .i64 0, .string ⟨#[]⟩] 49); have M1 := D.may; go_enter Tryz.func92, Tryz.ntmps92
 go_wp2_with fail
 refine (at_may A1 _ M1 hm).mono ?_; rintro e w2 ⟨rfl, A2⟩; have R2 := cells_of (A2.box _ (List.mem_cons_self ..)); go_wp2_with fail
 refine (at_size A2 _ S1 hm).mono ?_; rintro e w3 ⟨rfl, A3⟩; have R3 := cells_of (A3.box _ (List.mem_cons_self ..)); clear R2; go_wp2_with fail
 refine (at_get A3 _ _ S2 hm).mono ?_; rintro e w4 ⟨rfl, A4⟩; clear R3 A1 A2 A3 S1 S2 M1; go_wp2
 all_goals
  go_ret3; refine ⟨?_, (A4.pure ((Chg.refl NoB w4).alloc _)).keep (List.sublist_cons_self _ _)⟩
  first
   | (simp; done)
   | (simp; omega)
end Go.Proofs.YtpiomapnmempoaaGreat
