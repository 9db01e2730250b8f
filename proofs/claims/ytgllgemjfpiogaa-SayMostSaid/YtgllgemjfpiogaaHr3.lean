/- Walks: (*Heap).find. -/
import Derived.Test.YtgllgemjfpiogaaHr2
namespace Go.Proofs.Ytgllgemjfpiogaa
open Go.RowKit

theorem findE_zero {L : List C} {o : O} (h : findE L o = 0) : held o = true ∧ mayO o = true ∧ ∃ c, L[o.n.toNat]? = some c ∧ c.kind = o.kind ∧ o.pos + o.len ≤ c.size ∧ o.n < L.length := by
  unfold findE at h
  by_cases hh : held o = false
  · simp [hh] at h
  · simp only [Bool.not_eq_false] at hh
    by_cases hm : mayH L o = false
    · simp [hh, hm] at h
    · simp only [Bool.not_eq_false] at hm
      simp only [mayH, hh, Bool.and_eq_true, Bool.not_true, Bool.false_or, decide_eq_true_eq] at hm
      obtain ⟨h1, h2, h3⟩ := hm
      refine ⟨hh, h1, ?_⟩
      cases hc : L[o.n.toNat]? with
      | none => rw [hc] at h3; simp at h3
      | some c => rw [hc] at h3; simp at h3; exact ⟨c, rfl, h3.1, h3.2, h2⟩

theorem find_bad (h : HS) (o : O) (w : World) (H : HeapRep w h) (hE : findE h.l o ≠ 0) :
   Calls Try.prog 48 #[ptr h.hp, o.val] w fun e w' => e = .returned (.tuple #[.agg #[.pointer none, .pointer none], .int .i64 0, .int .i64 0, .int .i64 (findE h.l o)]) ∧ Chg NoB w w' := by
  obtain ⟨hp, slv, L⟩ := h
  obtain ⟨k, ex, n, a, l, s⟩ := o
  by_cases hh : held ⟨k, ex, n, a, l, s⟩ = false
  · have hf : findE (HS.l ⟨hp, slv, L⟩) ⟨k, ex, n, a, l, s⟩ = 6 := by simp [findE, hh]
    rw [hf]
    clear hf hE
    go_enter Try.func48, Try.ntmps48
    go_wp2_with fail
    refine (held_any ⟨k, ex, n, a, l, s⟩ _).mono ?_
    rintro e w1 ⟨rfl, hb1⟩
    have hB := hb1.blk (blk_new1 w _ _) id
    have XW := (((Chg.refl NoB w).alloc _).alloc _).pure hb1
    have hz := blk_lt hB
    clear hb1
    have R := cells_of hB
    have Z := free_of hB
    go_wp2
    refine bodyPost_ret (v := .tuple #[.agg #[.pointer none, .pointer none], .int .i64 0, .int .i64 0, .int .i64 6]) (by simp [results, Try.results48, go_sem, R, cell_set_at]) rfl ⟨rfl, ?_⟩
    exact (XW.setCell (by simp) _).setCell (by simp) _
  · simp only [Bool.not_eq_false] at hh
    have hm : mayH (HS.l ⟨hp, slv, L⟩) ⟨k, ex, n, a, l, s⟩ = false := by
      cases hm : mayH (HS.l ⟨hp, slv, L⟩) ⟨k, ex, n, a, l, s⟩
      · rfl
      · exact absurd (by simp [findE, hh, hm]) hE
    have hf : findE (HS.l ⟨hp, slv, L⟩) ⟨k, ex, n, a, l, s⟩ = 1 := by simp [findE, hh, hm]
    rw [hf]
    clear hf hE
    go_enter Try.func48, Try.ntmps48
    go_wp2_with fail
    refine (held_any ⟨k, ex, n, a, l, s⟩ _).mono ?_
    rintro e w1 ⟨rfl, hb1⟩
    have hB0 := hb1.blk (blk_alloc (blk_new w _) _) id
    have hB := hb1.blk (blk_new1 w _ _) id
    have H1 := (H.pure (((Chg.refl NoB w).alloc _).alloc _)).pure hb1
    have XW := (((Chg.refl NoB w).alloc _).alloc _).pure hb1
    clear hb1
    have R0 := cells_of hB0
    go_wp2_with fail
    refine (hmay_any ⟨hp, slv, L⟩ ⟨k, ex, n, a, l, s⟩ _ H1).mono ?_
    rintro e w2 ⟨rfl, hb2⟩
    have hB2 := hb2.blk hB id
    have XW2 := XW.pure hb2
    have hz := blk_lt hB2
    clear hb2 R0
    have R := cells_of hB2
    have Z := free_of hB2
    go_wp2
    refine bodyPost_ret (v := .tuple #[.agg #[.pointer none, .pointer none], .int .i64 0, .int .i64 0, .int .i64 1]) (by simp [results, Try.results48, go_sem, R, cell_set_at]) rfl ⟨rfl, ?_⟩
    exact (XW2.setCell (by simp) _).setCell (by simp) _

set_option maxHeartbeats 1000000 in
theorem find_good (h : HS) (o : O) (w : World) (H : HeapRep w h) (hE : findE h.l o = 0) (hn : o.n.toNat < h.L.length) :
   Calls Try.prog 48 #[ptr h.hp, o.val] w fun e w' => e = .returned (.tuple #[h.L[o.n.toNat].val, .int .i64 (atOf o), .int .i64 (lenOf h.L[o.n.toNat].c o), .int .i64 0]) ∧ Chg NoB w w' := by
  obtain ⟨hp, slv, L⟩ := h
  obtain ⟨k, ex, n, a, l, s⟩ := o
  obtain ⟨hh, hm0, c, hc, hck, hcs, hcn⟩ := findE_zero hE
  have hm : mayH (HS.l ⟨hp, slv, L⟩) ⟨k, ex, n, a, l, s⟩ = true := by
    cases hm : mayH (HS.l ⟨hp, slv, L⟩) ⟨k, ex, n, a, l, s⟩
    · simp [findE, hh, hm] at hE
    · rfl
  obtain ⟨n0, -⟩ := mayO_held hm0 hh
  simp only at n0 hn
  have hn1 : n < (L.length : Int) := by omega
  obtain ⟨g, cap, cur, fz, u, v, rfl, hg, hu, hv, huv, hgl⟩ := H.at' hn
  have hx : L[n.toNat] ∈ L := List.getElem_mem hn
  have hval : L[n.toNat].val = .agg #[.pointer u, .pointer v] := by unfold PC.val; rw [huv]
  have K2 : ∀ w, L[n.toNat].ok w → Calls Try.prog 65 #[.agg #[.pointer u, .pointer v]] w fun e w' => e = .returned (.int .i64 L[n.toNat].c.size) ∧ Chg NoB w w' := fun w h => by rw [← hval]; exact size_any _ w h
  rw [hval]
  clear hE hc hcs hck hcn hm0 huv hval
  generalize L[n.toNat] = x at *
  have hne : hp ≠ w.heap.size + 1 ∧ g ≠ w.heap.size + 1 := by have := blk_lt H.head; simp only at this; omega
  have hfoot : ∀ b ∈ HS.foot ⟨hp, .slice (some ⟨g, 0, none⟩) L.length cap, L⟩, ¬ (b = w.heap.size + 1) := fun b hb => by have := H.lt b hb; omega
  by_cases hk : k = 10
  · subst hk
    have hat : atOf ⟨10, ex, n, a, l, s⟩ = 0 := rfl
    have hle : lenOf x.c ⟨10, ex, n, a, l, s⟩ = x.c.size := rfl
    rw [hat, hle]
    clear hat hle
    go_enter Try.func48, Try.ntmps48
    go_wp2_with fail
    refine (held_any ⟨10, ex, n, a, l, s⟩ _).mono ?_
    rintro e w1 ⟨rfl, hb1⟩
    have hB0 := hb1.blk (blk_alloc (blk_new w _) _) id
    have hB := hb1.blk (blk_new1 w _ _) id
    have hg1 := hb1.blk (blk_alloc (blk_alloc hg _) _) id
    have H1 := (H.pure (((Chg.refl NoB w).alloc _).alloc _)).pure hb1
    have XW := (((Chg.refl NoB w).alloc _).alloc _).pure hb1
    clear hb1
    have R0 := cells_of hB0
    go_wp2_with fail
    refine (hmay_any ⟨hp, _, L⟩ ⟨10, ex, n, a, l, s⟩ _ H1).mono ?_
    rintro e w2 ⟨rfl, hb2⟩
    have hB2 := hb2.blk hB id
    have hB02 := hb2.blk hB0 id
    have hg2 := hb2.blk hg1 id
    have H2 := H1.pure hb2
    have XW2 := XW.pure hb2
    have hz := blk_lt hB2
    clear hb2 R0 H1 hB0 hB hg1
    have R := cells_of hB2
    have Z := free_of hB2
    have R0 := cells_of hB02
    have Rh := cells_of H2.head
    have Rg := cells_of hg2
    go_wp2_with fail
    go_region
    clear R Z R0 Rh Rg
    have XW3 := ((XW2.setCell (p := ⟨w.heap.size + 1, 0, none⟩) (by simp) (.pointer u)).setCell (p := ⟨w.heap.size + 1, 1, none⟩) (by simp) (.pointer v)).drew
    have H3 := H2.chg ((((Chg.refl (fun b => b = w.heap.size + 1) w2).setCell (p := ⟨w.heap.size + 1, 0, none⟩) (by simp) (.pointer u)).setCell (p := ⟨w.heap.size + 1, 1, none⟩) (by simp) (.pointer v)).drew) hfoot
    have hB3 := blk_drew (blk_set (blk_set hB2 0 (.pointer u)) 1 (.pointer v))
    simp only [List.setIfInBounds_toArray, List.set_cons_zero, List.set_cons_succ] at hB3
    have hB03 := blk_drew (blk_set_other (blk_set_other hB02 (p := ⟨w.heap.size + 1, 0, none⟩) (by simp) (.pointer u)) (p := ⟨w.heap.size + 1, 1, none⟩) (by simp) (.pointer v))
    generalize hW3 : ((w2.setCell ⟨w.heap.size + 1, 0, none⟩ (.pointer u)).setCell ⟨w.heap.size + 1, 1, none⟩ (.pointer v)).drew = w3 at *
    clear hW3 XW2 H2 hB2 hB02 hg2 hz
    have R := Chg.cells (S := NoB) hB3 id
    have R0 := Chg.cells (S := NoB) hB03 id
    have Z := Chg.free (S := NoB) hB3 id
    have hz := blk_lt hB3
    have X := Chg.refl NoB w3
    go_wp2_with fail
    go_region_with (go_at_call 65; refine (K2 _ ((H3.cell _ hx).chg (S := NoB) (by first | assumption | (simp only [go_sem, X])) (fun _ _ e => e))).mono ?_; rintro e w4 ⟨rfl, hb4⟩; have hb5 := X.drew.trans hb4)
    all_goals
      have hB4 := hb5.blk hB3 id
      have hz4 := blk_lt hB4
      clear R R0 Z hB3 hB03 X hb4 hz
      have R := cells_of hB4
      have Z := free_of hB4
      go_wp2
      refine bodyPost_ret (v := .tuple #[.agg #[.pointer u, .pointer v], .int .i64 0, .int .i64 x.c.size, .int .i64 0]) (by simp [results, Try.results48, go_sem, R, cell_set_at]) rfl ⟨rfl, ?_⟩
      exact ((XW3.trans hb5).setCell (by simp) _).setCell (by simp) _
  · have hat : atOf ⟨k, ex, n, a, l, s⟩ = a := by simp [atOf, hk]
    have hle : lenOf x.c ⟨k, ex, n, a, l, s⟩ = l := by simp [lenOf, hk]
    have hkb : (k == 10) = false := by simpa using hk
    rw [hat, hle]
    clear hat hle
    go_enter Try.func48, Try.ntmps48
    go_wp2_with fail
    refine (held_any ⟨k, ex, n, a, l, s⟩ _).mono ?_
    rintro e w1 ⟨rfl, hb1⟩
    have hB0 := hb1.blk (blk_alloc (blk_new w _) _) id
    have hB := hb1.blk (blk_new1 w _ _) id
    have hg1 := hb1.blk (blk_alloc (blk_alloc hg _) _) id
    have H1 := (H.pure (((Chg.refl NoB w).alloc _).alloc _)).pure hb1
    have XW := (((Chg.refl NoB w).alloc _).alloc _).pure hb1
    clear hb1
    have R0 := cells_of hB0
    go_wp2_with fail
    refine (hmay_any ⟨hp, _, L⟩ ⟨k, ex, n, a, l, s⟩ _ H1).mono ?_
    rintro e w2 ⟨rfl, hb2⟩
    have hB2 := hb2.blk hB id
    have hB02 := hb2.blk hB0 id
    have hg2 := hb2.blk hg1 id
    have H2 := H1.pure hb2
    have XW2 := XW.pure hb2
    have hz := blk_lt hB2
    clear hb2 R0 H1 hB0 hB hg1
    have R := cells_of hB2
    have Z := free_of hB2
    have R0 := cells_of hB02
    have Rh := cells_of H2.head
    have Rg := cells_of hg2
    go_wp2_with fail
    go_region
    clear R Z R0 Rh Rg
    have XW3 := ((XW2.setCell (p := ⟨w.heap.size + 1, 0, none⟩) (by simp) (.pointer u)).setCell (p := ⟨w.heap.size + 1, 1, none⟩) (by simp) (.pointer v)).drew
    have H3 := H2.chg ((((Chg.refl (fun b => b = w.heap.size + 1) w2).setCell (p := ⟨w.heap.size + 1, 0, none⟩) (by simp) (.pointer u)).setCell (p := ⟨w.heap.size + 1, 1, none⟩) (by simp) (.pointer v)).drew) hfoot
    have hB3 := blk_drew (blk_set (blk_set hB2 0 (.pointer u)) 1 (.pointer v))
    simp only [List.setIfInBounds_toArray, List.set_cons_zero, List.set_cons_succ] at hB3
    have hB03 := blk_drew (blk_set_other (blk_set_other hB02 (p := ⟨w.heap.size + 1, 0, none⟩) (by simp) (.pointer u)) (p := ⟨w.heap.size + 1, 1, none⟩) (by simp) (.pointer v))
    generalize hW3 : ((w2.setCell ⟨w.heap.size + 1, 0, none⟩ (.pointer u)).setCell ⟨w.heap.size + 1, 1, none⟩ (.pointer v)).drew = w3 at *
    clear hW3 XW2 H2 hB2 hB02 hg2 hz
    have R := Chg.cells (S := NoB) hB3 id
    have R0 := Chg.cells (S := NoB) hB03 id
    have Z := Chg.free (S := NoB) hB3 id
    have hz := blk_lt hB3
    have X := Chg.refl NoB w3
    go_wp2_with fail
    go_region
    go_wp2
    refine bodyPost_ret (v := .tuple #[.agg #[.pointer u, .pointer v], .int .i64 a, .int .i64 l, .int .i64 0]) (by simp [results, Try.results48, go_sem, R, X, cell_set_at]) rfl ⟨rfl, ?_⟩
    exact ((XW3.drew.setCell (by simp) _).setCell (by simp) _)
end Go.Proofs.Ytgllgemjfpiogaa
