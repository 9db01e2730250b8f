/- Parts of the proof: Hr2, Hr3, Hg. -/
import Derived.Test.YtpiomapnmempoaaGreatY01
namespace Go.Proofs.YtpiomapnmempoaaGreat
open Go.RowKit
variable {w : World} {o : O}
theorem PC.ptrs_eq (x : PC) : ∃ u v, x.ptrs = [.pointer u, .pointer v] := by
 unfold PC.ptrs; split <;> exact ⟨_, _, rfl⟩
theorem HeapRep.at' {hp : Nat} {slv : Value} {L : List PC} (H : HeapRep w ⟨hp, slv, L⟩) {i : Nat} (hi : i < L.length) :
 ∃ g cap cur fz u v, slv = .slice (some ⟨g, 0, none⟩) L.length cap ∧ w.heap[g]? = some (.cells cur 121 fz) ∧ cur[i * 2]? = some (.pointer u) ∧ cur[i * 2 + 1]? = some (.pointer v) ∧ L[i].ptrs = [.pointer u, .pointer v] ∧ g < w.heap.size := by
 obtain ⟨g, cap, cur, fz, h1, h2, h3, h4, h5, h6, h7⟩ := H.row.some' (by show 0 < L.length; omega); obtain ⟨u, v, hp2⟩ := L[i].ptrs_eq; refine ⟨g, cap, cur, fz, u, v, h1, h2, ?_, ?_, hp2, blk_lt h2⟩
 · rw [h7 _ (by show i * 2 < L.length * 2; omega)]; have := flat_get PC.ptrs 2 ptrs_length 0 (by omega) L i; simp only [Nat.add_zero] at this; show (L.flatMap PC.ptrs)[i * 2]? = _; rw [this, List.getElem?_eq_getElem hi]; simp [hp2]
 · rw [h7 _ (by show i * 2 + 1 < L.length * 2; omega)]; show (L.flatMap PC.ptrs)[i * 2 + 1]? = _; rw [flat_get PC.ptrs 2 ptrs_length 1 (by omega) L i, List.getElem?_eq_getElem hi]; simp [hp2]
theorem HeapRep.shape {hp : Nat} {slv : Value} {L : List PC} (H : HeapRep w ⟨hp, slv, L⟩) : ∃ a cap, slv = .slice a L.length cap ∧ L.length ≤ cap := Row.shape H.row
theorem mayO_held (hm : mayO o = true) (hh : held o = true) : 0 ≤ o.n ∧ o.n ≤ 40000 ∧ 0 ≤ o.pos ∧ o.pos ≤ 40000 ∧ 0 ≤ o.len ∧ o.len ≤ 40000 := by
 obtain ⟨k, ex, n, a, l, s⟩ := o; simp only [held, Bool.or_eq_true, beq_iff_eq] at hh; simp only [mayO, Bool.and_eq_true, eqO_iff, bareO, O.nil] at hm; obtain ⟨h1, h2⟩ := hm
 rcases hh with (rfl | rfl) | rfl <;> simp at h1 h2 ⊢ <;> omega
set_option maxHeartbeats 1000000 in
theorem hmay_any (h : HS) (o : O) (w : World) (H : HeapRep w h) :
 Calls Tryz.prog 60 #[ptr h.hp, o.val] w fun e w' => e = .returned (.bool (mayH h.l o)) ∧ Chg NoB w w' := by
 obtain ⟨hp, slv, L⟩ := h; obtain ⟨k, ex, n, a, l, s⟩ := o; have hl := blk_lt H.head
 by_cases hm : mayO ⟨k, ex, n, a, l, s⟩ = false
 · have hf : mayH (HS.l ⟨hp, slv, L⟩) ⟨k, ex, n, a, l, s⟩ = false := by simp [mayH, hm]
   rw [hf]; go_enter Tryz.func60, Tryz.ntmps60
   go_wp2_with fail
   refine (may_any ⟨k, ex, n, a, l, s⟩ _).mono ?_; rintro e w1 ⟨rfl, hb1⟩; go_wp2
   go_ret; exact ⟨rfl, ((Chg.refl _ _).alloc _).pure hb1⟩
 simp only [Bool.not_eq_false] at hm
 by_cases hh : held ⟨k, ex, n, a, l, s⟩ = false
 · have hf : mayH (HS.l ⟨hp, slv, L⟩) ⟨k, ex, n, a, l, s⟩ = true := by simp [mayH, hm, hh]
   rw [hf]; go_enter Tryz.func60, Tryz.ntmps60
   go_wp2_with fail
   refine (may_any ⟨k, ex, n, a, l, s⟩ _).mono ?_; rintro e w1 ⟨rfl, hb1⟩; have hB := hb1.blk (blk_new w _) id; have R := Chg.cells (S := NoB) hB id; have X := Chg.refl NoB w1; go_wp2_with fail
   refine (held_any ⟨k, ex, n, a, l, s⟩ _).mono ?_; rintro e w2 ⟨rfl, hb2⟩; go_wp2
   go_ret; exact ⟨rfl, (((Chg.refl _ _).alloc _).pure hb1).pure hb2⟩
 simp only [Bool.not_eq_false] at hh; obtain ⟨n0, n1, a0, a1, l0, l1⟩ := mayO_held hm hh; simp only at n0 n1 a0 a1 l0 l1
 by_cases hn : (L.length : Int) ≤ n
 · have hf : mayH (HS.l ⟨hp, slv, L⟩) ⟨k, ex, n, a, l, s⟩ = false := by simp [mayH, hm, hh]; omega
   rw [hf]; obtain ⟨sa, cap, rfl, hc⟩ := H.shape; go_enter Tryz.func60, Tryz.ntmps60
   go_wp2_with fail
   refine (may_any ⟨k, ex, n, a, l, s⟩ _).mono ?_; rintro e w1 ⟨rfl, hb1⟩; have hB := hb1.blk (blk_new w _) id; have H1 := (H.pure ((Chg.refl _ _).alloc _)).pure hb1; have XW := ((Chg.refl NoB w).alloc _).pure hb1; clear hb1; have R := Chg.cells (S := NoB) hB id; have Rh := Chg.cells (S := NoB) H1.head id; have X := Chg.refl NoB w1; go_wp2_with fail
   refine (held_any ⟨k, ex, n, a, l, s⟩ _).mono ?_; rintro e w2 ⟨rfl, hb2⟩; have X2 := X.pure hb2; go_wp2_with fail
   have hd1 : decide ((L.length : Int) ≤ n) = true := by simp; omega
   go_quiet (fail)
   go_wp2
   go_ret; exact ⟨rfl, (XW.trans X2).drewN _⟩
 have hn' : n.toNat < L.length := by omega
 obtain ⟨g, cap, cur, fz, u, v, rfl, hg, hu, hv, huv, hgl⟩ := H.at' hn'; have hx : L[n.toNat] ∈ L := List.getElem_mem hn'
 have hval : L[n.toNat].val = .agg #[.pointer u, .pointer v] := by unfold PC.val; rw [huv]
 have K1 : ∀ w, L[n.toNat].ok w → Calls Tryz.prog 96 #[.agg #[.pointer u, .pointer v]] w fun e w' => e = .returned (.int .i64 L[n.toNat].c.kind) ∧ Chg NoB w w' := fun w h => by rw [← hval]; exact kind_any _ w h
 have K2 : ∀ w, L[n.toNat].ok w → Calls Tryz.prog 97 #[.agg #[.pointer u, .pointer v]] w fun e w' => e = .returned (.int .i64 L[n.toNat].c.size) ∧ Chg NoB w w' := fun w h => by rw [← hval]; exact size_any _ w h
 have hmay : mayH (HS.l ⟨hp, .slice (some ⟨g, 0, none⟩) L.length cap, L⟩) ⟨k, ex, n, a, l, s⟩ = (decide (L[n.toNat].c.kind = k) && decide (a + l ≤ L[n.toNat].c.size)) := by
  simp [mayH, hm, hh, HS.l, List.getElem?_map, List.getElem?_eq_getElem hn']; intro h; omega
 rw [hmay]; clear hmay hval huv; have hA : IntKind.i64.wrap (a + l) = a + l := IntWalk.i64_in _ (by omega)
 have hd1 : decide ((L.length : Int) ≤ n) = false := by simp; omega
 generalize hk : L[n.toNat].c.kind = kk at *; generalize hz : L[n.toNat].c.size = zz at *; generalize L[n.toNat] = x at *; clear hk hz
 by_cases hkk : kk = k
 · subst hkk; go_enter Tryz.func60, Tryz.ntmps60
   go_wp2_with fail
   refine (may_any ⟨kk, ex, n, a, l, s⟩ _).mono ?_; rintro e w1 ⟨rfl, hb1⟩; have hB := hb1.blk (blk_new w _) id; have hg1 := hb1.blk (blk_alloc hg _) id; have H1 := (H.pure ((Chg.refl _ _).alloc _)).pure hb1; have XW := ((Chg.refl NoB w).alloc _).pure hb1; clear hb1; have R := Chg.cells (S := NoB) hB id; have Rh := Chg.cells (S := NoB) H1.head id; have Rg := Chg.cells (S := NoB) hg1 id; have X := Chg.refl NoB w1; go_wp2_with fail
   refine (held_any ⟨kk, ex, n, a, l, s⟩ _).mono ?_; rintro e w2 ⟨rfl, hb2⟩; have X2 := X.pure hb2; clear hb2; go_wp2_with fail
   go_region_held3 (fun w' => Chg NoB w1 w') (first | assumption | (exact Chg.drew (by assumption)) | (exact Chg.pure (by assumption) (by assumption)))
    ((go_at_call 96; refine (K1 _ ((H1.cell _ hx).chg (S := NoB) (by assumption) (fun _ _ e => e))).mono ?_; rintro e w4 ⟨rfl, hb4⟩))
   go_wp2_with fail
   go_region_held3 (fun w' => Chg NoB w1 w') (first | assumption | (exact Chg.drew (by assumption)) | (exact Chg.pure (by assumption) (by assumption)))
    ((go_at_call 97; refine (K2 _ ((H1.cell _ hx).chg (S := NoB) (by assumption) (fun _ _ e => e))).mono ?_; rintro e w4 ⟨rfl, hb4⟩))
   go_wp2
   go_ret; exact ⟨by simp, XW.trans (by assumption)⟩
 · have hkb : (kk == k) = false := by simpa using hkk
   have hkc : (kk != k) = true := by simpa using hkk
   simp only [hkk, decide_false, Bool.false_and]; go_enter Tryz.func60, Tryz.ntmps60
   go_wp2_with fail
   refine (may_any ⟨k, ex, n, a, l, s⟩ _).mono ?_; rintro e w1 ⟨rfl, hb1⟩; have hB := hb1.blk (blk_new w _) id; have hg1 := hb1.blk (blk_alloc hg _) id; have H1 := (H.pure ((Chg.refl _ _).alloc _)).pure hb1; have XW := ((Chg.refl NoB w).alloc _).pure hb1; clear hb1; have R := Chg.cells (S := NoB) hB id; have Rh := Chg.cells (S := NoB) H1.head id; have Rg := Chg.cells (S := NoB) hg1 id; have X := Chg.refl NoB w1; go_wp2_with fail
   refine (held_any ⟨k, ex, n, a, l, s⟩ _).mono ?_; rintro e w2 ⟨rfl, hb2⟩; have X2 := X.pure hb2; clear hb2; go_wp2_with fail
   go_region_held3 (fun w' => Chg NoB w1 w') (first | assumption | (exact Chg.drew (by assumption)) | (exact Chg.pure (by assumption) (by assumption)))
    ((go_at_call 96; refine (K1 _ ((H1.cell _ hx).chg (S := NoB) (by assumption) (fun _ _ e => e))).mono ?_; rintro e w4 ⟨rfl, hb4⟩))
   go_wp2
   go_ret; exact ⟨rfl, XW.trans (by assumption)⟩
theorem findE_zero {L : List C} (h : findE L o = 0) : held o = true ∧ mayO o = true ∧ ∃ c, L[o.n.toNat]? = some c ∧ c.kind = o.kind ∧ o.pos + o.len ≤ c.size ∧ o.n < L.length := by
 unfold findE at h
 by_cases hh : held o = false
 · simp [hh] at h
 · simp only [Bool.not_eq_false] at hh
   by_cases hm : mayH L o = false
   · simp [hh, hm] at h
   · simp only [Bool.not_eq_false] at hm; simp only [mayH, hh, Bool.and_eq_true, Bool.not_true, Bool.false_or, decide_eq_true_eq] at hm; obtain ⟨h1, h2, h3⟩ := hm; refine ⟨hh, h1, ?_⟩
     cases hc : L[o.n.toNat]? with
     | none => rw [hc] at h3; simp at h3
     | some c => rw [hc] at h3; simp at h3; exact ⟨c, rfl, h3.1, h3.2, h2⟩
theorem find_bad (h : HS) (o : O) (w : World) (H : HeapRep w h) (hE : findE h.l o ≠ 0) :
 Calls Tryz.prog 63 #[ptr h.hp, o.val] w fun e w' => e = .returned (.tuple #[.agg #[.pointer none, .pointer none], .int .i64 0, .int .i64 0, .int .i64 (findE h.l o)]) ∧ Chg NoB w w' := by
 obtain ⟨hp, slv, L⟩ := h; obtain ⟨k, ex, n, a, l, s⟩ := o
 by_cases hh : held ⟨k, ex, n, a, l, s⟩ = false
 · have hf : findE (HS.l ⟨hp, slv, L⟩) ⟨k, ex, n, a, l, s⟩ = 6 := by simp [findE, hh]
   rw [hf]; clear hf hE; go_enter Tryz.func63, Tryz.ntmps63
   go_wp2_with fail
   refine (held_any ⟨k, ex, n, a, l, s⟩ _).mono ?_; rintro e w1 ⟨rfl, hb1⟩; have hB := hb1.blk (blk_new1 w _ _) id; have XW := (((Chg.refl NoB w).alloc _).alloc _).pure hb1; have hz := blk_lt hB; clear hb1; have R := cells_of hB; have Z := free_of hB; go_wp2
   refine bodyPost_ret (v := .tuple #[.agg #[.pointer none, .pointer none], .int .i64 0, .int .i64 0, .int .i64 6]) (by simp [results, Tryz.results63, go_sem, R, cell_set_at]) rfl ⟨rfl, ?_⟩; exact (XW.setCell (by simp) _).setCell (by simp) _
 · simp only [Bool.not_eq_false] at hh
   have hm : mayH (HS.l ⟨hp, slv, L⟩) ⟨k, ex, n, a, l, s⟩ = false := by
    cases hm : mayH (HS.l ⟨hp, slv, L⟩) ⟨k, ex, n, a, l, s⟩
    · rfl
    · exact absurd (by simp [findE, hh, hm]) hE
   have hf : findE (HS.l ⟨hp, slv, L⟩) ⟨k, ex, n, a, l, s⟩ = 1 := by simp [findE, hh, hm]
   rw [hf]; clear hf hE; go_enter Tryz.func63, Tryz.ntmps63
   go_wp2_with fail
   refine (held_any ⟨k, ex, n, a, l, s⟩ _).mono ?_; rintro e w1 ⟨rfl, hb1⟩; have hB0 := hb1.blk (blk_alloc (blk_new w _) _) id; have hB := hb1.blk (blk_new1 w _ _) id; have H1 := (H.pure (((Chg.refl NoB w).alloc _).alloc _)).pure hb1; have XW := (((Chg.refl NoB w).alloc _).alloc _).pure hb1; clear hb1; have R0 := cells_of hB0; go_wp2_with fail
   refine (hmay_any ⟨hp, slv, L⟩ ⟨k, ex, n, a, l, s⟩ _ H1).mono ?_; rintro e w2 ⟨rfl, hb2⟩; have hB2 := hb2.blk hB id; have XW2 := XW.pure hb2; have hz := blk_lt hB2; clear hb2 R0; have R := cells_of hB2; have Z := free_of hB2; go_wp2
   refine bodyPost_ret (v := .tuple #[.agg #[.pointer none, .pointer none], .int .i64 0, .int .i64 0, .int .i64 1]) (by simp [results, Tryz.results63, go_sem, R, cell_set_at]) rfl ⟨rfl, ?_⟩; exact (XW2.setCell (by simp) _).setCell (by simp) _
set_option maxHeartbeats 1000000 in
theorem find_good (h : HS) (o : O) (w : World) (H : HeapRep w h) (hE : findE h.l o = 0) (hn : o.n.toNat < h.L.length) :
 Calls Tryz.prog 63 #[ptr h.hp, o.val] w fun e w' => e = .returned (.tuple #[h.L[o.n.toNat].val, .int .i64 (atOf o), .int .i64 (lenOf h.L[o.n.toNat].c o), .int .i64 0]) ∧ Chg NoB w w' := by
 obtain ⟨hp, slv, L⟩ := h; obtain ⟨k, ex, n, a, l, s⟩ := o; obtain ⟨hh, hm0, c, hc, hck, hcs, hcn⟩ := findE_zero hE
 have hm : mayH (HS.l ⟨hp, slv, L⟩) ⟨k, ex, n, a, l, s⟩ = true := by
  cases hm : mayH (HS.l ⟨hp, slv, L⟩) ⟨k, ex, n, a, l, s⟩
  · simp [findE, hh, hm] at hE
  · rfl
 obtain ⟨n0, -⟩ := mayO_held hm0 hh; simp only at n0 hn
 have hn1 : n < (L.length : Int) := by omega
 obtain ⟨g, cap, cur, fz, u, v, rfl, hg, hu, hv, huv, hgl⟩ := H.at' hn; have hx : L[n.toNat] ∈ L := List.getElem_mem hn
 have hval : L[n.toNat].val = .agg #[.pointer u, .pointer v] := by unfold PC.val; rw [huv]
 have K2 : ∀ w, L[n.toNat].ok w → Calls Tryz.prog 97 #[.agg #[.pointer u, .pointer v]] w fun e w' => e = .returned (.int .i64 L[n.toNat].c.size) ∧ Chg NoB w w' := fun w h => by rw [← hval]; exact size_any _ w h
 rw [hval]; clear hE hc hcs hck hcn hm0 huv hval; generalize L[n.toNat] = x at *
 have hne : hp ≠ w.heap.size + 1 ∧ g ≠ w.heap.size + 1 := by have := blk_lt H.head; simp only at this; omega
 have hfoot : ∀ b ∈ HS.foot ⟨hp, .slice (some ⟨g, 0, none⟩) L.length cap, L⟩, ¬ (b = w.heap.size + 1) := fun b hb => by have := H.lt b hb; omega
 by_cases hk : k = 10
 · subst hk; have hat : atOf ⟨10, ex, n, a, l, s⟩ = 0 := rfl; have hle : lenOf x.c ⟨10, ex, n, a, l, s⟩ = x.c.size := rfl; rw [hat, hle]; clear hat hle; go_enter Tryz.func63, Tryz.ntmps63
   go_wp2_with fail
   refine (held_any ⟨10, ex, n, a, l, s⟩ _).mono ?_; rintro e w1 ⟨rfl, hb1⟩; have hB0 := hb1.blk (blk_alloc (blk_new w _) _) id; have hB := hb1.blk (blk_new1 w _ _) id; have hg1 := hb1.blk (blk_alloc (blk_alloc hg _) _) id; have H1 := (H.pure (((Chg.refl NoB w).alloc _).alloc _)).pure hb1; have XW := (((Chg.refl NoB w).alloc _).alloc _).pure hb1; clear hb1; have R0 := cells_of hB0; go_wp2_with fail
   refine (hmay_any ⟨hp, _, L⟩ ⟨10, ex, n, a, l, s⟩ _ H1).mono ?_; rintro e w2 ⟨rfl, hb2⟩; have hB2 := hb2.blk hB id; have hB02 := hb2.blk hB0 id; have hg2 := hb2.blk hg1 id; have H2 := H1.pure hb2; have XW2 := XW.pure hb2; have hz := blk_lt hB2; clear hb2 R0 H1 hB0 hB hg1; have R := cells_of hB2; have Z := free_of hB2; have R0 := cells_of hB02; have Rh := cells_of H2.head; have Rg := cells_of hg2; go_wp2_with fail
   go_region
   clear R Z R0 Rh Rg; have XW3 := ((XW2.setCell (p := ⟨w.heap.size + 1, 0, none⟩) (by simp) (.pointer u)).setCell (p := ⟨w.heap.size + 1, 1, none⟩) (by simp) (.pointer v)).drew; have H3 := H2.chg ((((Chg.refl (fun b => b = w.heap.size + 1) w2).setCell (p := ⟨w.heap.size + 1, 0, none⟩) (by simp) (.pointer u)).setCell (p := ⟨w.heap.size + 1, 1, none⟩) (by simp) (.pointer v)).drew) hfoot; have hB3 := blk_drew (blk_set (blk_set hB2 0 (.pointer u)) 1 (.pointer v)); simp only [List.setIfInBounds_toArray, List.set_cons_zero, List.set_cons_succ] at hB3; have hB03 := blk_drew (blk_set_other (blk_set_other hB02 (p := ⟨w.heap.size + 1, 0, none⟩) (by simp) (.pointer u)) (p := ⟨w.heap.size + 1, 1, none⟩) (by simp) (.pointer v)); generalize hW3 : ((w2.setCell ⟨w.heap.size + 1, 0, none⟩ (.pointer u)).setCell ⟨w.heap.size + 1, 1, none⟩ (.pointer v)).drew = w3 at *; clear hW3 XW2 H2 hB2 hB02 hg2 hz; have R := Chg.cells (S := NoB) hB3 id; have R0 := Chg.cells (S := NoB) hB03 id; have Z := Chg.free (S := NoB) hB3 id; have hz := blk_lt hB3; have X := Chg.refl NoB w3; go_wp2_with fail
   go_region_with (go_at_call 97; refine (K2 _ ((H3.cell _ hx).chg (S := NoB) (by first | assumption | (simp only [go_sem, X])) (fun _ _ e => e))).mono ?_; rintro e w4 ⟨rfl, hb4⟩; have hb5 := X.drew.trans hb4)
   all_goals
    have hB4 := hb5.blk hB3 id; have hz4 := blk_lt hB4; clear R R0 Z hB3 hB03 X hb4 hz; have R := cells_of hB4; have Z := free_of hB4; go_wp2
    refine bodyPost_ret (v := .tuple #[.agg #[.pointer u, .pointer v], .int .i64 0, .int .i64 x.c.size, .int .i64 0]) (by simp [results, Tryz.results63, go_sem, R, cell_set_at]) rfl ⟨rfl, ?_⟩; exact ((XW3.trans hb5).setCell (by simp) _).setCell (by simp) _
 · have hat : atOf ⟨k, ex, n, a, l, s⟩ = a := by simp [atOf, hk]
   have hle : lenOf x.c ⟨k, ex, n, a, l, s⟩ = l := by simp [lenOf, hk]
   have hkb : (k == 10) = false := by simpa using hk
   rw [hat, hle]; clear hat hle; go_enter Tryz.func63, Tryz.ntmps63
   go_wp2_with fail
   refine (held_any ⟨k, ex, n, a, l, s⟩ _).mono ?_; rintro e w1 ⟨rfl, hb1⟩; have hB0 := hb1.blk (blk_alloc (blk_new w _) _) id; have hB := hb1.blk (blk_new1 w _ _) id; have hg1 := hb1.blk (blk_alloc (blk_alloc hg _) _) id; have H1 := (H.pure (((Chg.refl NoB w).alloc _).alloc _)).pure hb1; have XW := (((Chg.refl NoB w).alloc _).alloc _).pure hb1; clear hb1; have R0 := cells_of hB0; go_wp2_with fail
   refine (hmay_any ⟨hp, _, L⟩ ⟨k, ex, n, a, l, s⟩ _ H1).mono ?_; rintro e w2 ⟨rfl, hb2⟩; have hB2 := hb2.blk hB id; have hB02 := hb2.blk hB0 id; have hg2 := hb2.blk hg1 id; have H2 := H1.pure hb2; have XW2 := XW.pure hb2; have hz := blk_lt hB2; clear hb2 R0 H1 hB0 hB hg1; have R := cells_of hB2; have Z := free_of hB2; have R0 := cells_of hB02; have Rh := cells_of H2.head; have Rg := cells_of hg2; go_wp2_with fail
   go_region
   clear R Z R0 Rh Rg; have XW3 := ((XW2.setCell (p := ⟨w.heap.size + 1, 0, none⟩) (by simp) (.pointer u)).setCell (p := ⟨w.heap.size + 1, 1, none⟩) (by simp) (.pointer v)).drew; have H3 := H2.chg ((((Chg.refl (fun b => b = w.heap.size + 1) w2).setCell (p := ⟨w.heap.size + 1, 0, none⟩) (by simp) (.pointer u)).setCell (p := ⟨w.heap.size + 1, 1, none⟩) (by simp) (.pointer v)).drew) hfoot; have hB3 := blk_drew (blk_set (blk_set hB2 0 (.pointer u)) 1 (.pointer v)); simp only [List.setIfInBounds_toArray, List.set_cons_zero, List.set_cons_succ] at hB3; have hB03 := blk_drew (blk_set_other (blk_set_other hB02 (p := ⟨w.heap.size + 1, 0, none⟩) (by simp) (.pointer u)) (p := ⟨w.heap.size + 1, 1, none⟩) (by simp) (.pointer v)); generalize hW3 : ((w2.setCell ⟨w.heap.size + 1, 0, none⟩ (.pointer u)).setCell ⟨w.heap.size + 1, 1, none⟩ (.pointer v)).drew = w3 at *; clear hW3 XW2 H2 hB2 hB02 hg2 hz; have R := Chg.cells (S := NoB) hB3 id; have R0 := Chg.cells (S := NoB) hB03 id; have Z := Chg.free (S := NoB) hB3 id; have hz := blk_lt hB3; have X := Chg.refl NoB w3; go_wp2_with fail
   go_region
   go_wp2
   refine bodyPost_ret (v := .tuple #[.agg #[.pointer u, .pointer v], .int .i64 a, .int .i64 l, .int .i64 0]) (by simp [results, Tryz.results63, go_sem, R, X, cell_set_at]) rfl ⟨rfl, ?_⟩; exact ((XW3.drew.setCell (by simp) _).setCell (by simp) _)
theorem findE_good {h : HS} (H : HeapRep w h) {o : O} (hE : findE h.l o = 0) : ∃ hn : o.n.toNat < h.L.length, (h.L[o.n.toNat]).ok w ∧ h.L[o.n.toNat] ∈ h.L ∧ h.l[o.n.toNat]? = some (h.L[o.n.toNat]).c ∧
 (h.L[o.n.toNat]).c.kind = o.kind ∧ 0 ≤ atOf o ∧ 0 ≤ lenOf (h.L[o.n.toNat]).c o ∧ atOf o + lenOf (h.L[o.n.toNat]).c o ≤ (h.L[o.n.toNat]).c.size ∧ held o = true := by
 obtain ⟨hh, hm, c, hc, hk, hs, hn⟩ := findE_zero hE; obtain ⟨n0, n1, a0, a1, l0, l1⟩ := mayO_held hm hh
 have hn' : o.n.toNat < h.L.length := by simp only [HS.l, List.length_map] at hn; omega
 have hx : h.L[o.n.toNat] ∈ h.L := List.getElem_mem hn'
 have hc' : h.l[o.n.toNat]? = some (h.L[o.n.toNat]).c := by simp [HS.l, hn']
 have : c = (h.L[o.n.toNat]).c := by rw [hc'] at hc; exact (Option.some.inj hc).symm
 subst this
 refine ⟨hn', H.cell _ hx, hx, hc', hk, ?_, ?_, ?_, hh⟩ <;> simp only [atOf, lenOf] <;> split <;> omega
theorem le_sum : ∀ (l : List Nat) (x : Nat), x ∈ l → x ≤ l.sum
 | [], _, h => by cases h
 | y :: l, x, h => by
  rcases List.mem_cons.1 h with rfl | h
  · simp
  · have := le_sum l x h; simp; omega
theorem cell_small {h : HS} (H : HeapRep w h) {x : PC} (hx : x ∈ h.L) : x.c.size ≤ 40000 := by
 refine Nat.le_trans ?_ H.room; unfold used; exact le_sum _ _ (List.mem_map.2 ⟨x.c, List.mem_map.2 ⟨x, hx, rfl⟩, rfl⟩)
theorem wrap_byte (b : UInt8) : wrap64 (b.toNat : Int) = b.toNat := IntWalk.wrap64_in _ (by have := b.toNat_lt; omega)
def sizeH (L : List C) (o : O) : Int × Int :=
 if findE L o ≠ 0 then (0, findE L o) else ((L[o.n.toNat]?).elim 0 (fun c => lenOf c o), 0)
theorem hsize_any (h : HS) (o : O) (w : World) (H : HeapRep w h) :
 Calls Tryz.prog 117 #[ptr h.hp, o.val] w fun e w' => e = .returned (.tuple #[.int .i64 (sizeH h.l o).1, .int .i64 (sizeH h.l o).2]) ∧ Chg NoB w w' := by
 obtain ⟨hp, slv, L⟩ := h; obtain ⟨k, ex, n, a, l, s⟩ := o
 by_cases hE : findE (HS.l ⟨hp, slv, L⟩) ⟨k, ex, n, a, l, s⟩ = 0
 · obtain ⟨hn, -, -, hc, -⟩ := findE_good H hE
   have hs : sizeH (HS.l ⟨hp, slv, L⟩) ⟨k, ex, n, a, l, s⟩ = (lenOf L[n.toNat].c ⟨k, ex, n, a, l, s⟩, 0) := by simp only at hc; simp [sizeH, hE, hc]
   rw [hs]; go_enter Tryz.func117, Tryz.ntmps117
   go_wp2_with fail
   refine (find_good ⟨hp, slv, L⟩ ⟨k, ex, n, a, l, s⟩ _ (H.pure ((Chg.refl NoB w).alloc _)) hE hn).mono ?_; rintro e w1 ⟨rfl, hb1⟩; have hB0 := hb1.blk (blk_new w _) id; have H1 := (H.pure ((Chg.refl NoB w).alloc _)).pure hb1; have XW := ((Chg.refl NoB w).alloc _).pure hb1; clear hb1; go_wp2
   go_ret2
   exact ⟨rfl, XW⟩
 · have hs : sizeH (HS.l ⟨hp, slv, L⟩) ⟨k, ex, n, a, l, s⟩ = (0, findE (HS.l ⟨hp, slv, L⟩) ⟨k, ex, n, a, l, s⟩) := by simp [sizeH, hE]
   rw [hs]; go_enter Tryz.func117, Tryz.ntmps117
   go_wp2_with fail
   refine (find_bad ⟨hp, slv, L⟩ ⟨k, ex, n, a, l, s⟩ _ (H.pure ((Chg.refl NoB w).alloc _)) hE).mono ?_; rintro e w1 ⟨rfl, hb1⟩; have hB0 := hb1.blk (blk_new w _) id; have H1 := (H.pure ((Chg.refl NoB w).alloc _)).pure hb1; have XW := ((Chg.refl NoB w).alloc _).pure hb1; clear hb1; go_wp2
   go_ret2
   exact ⟨rfl, XW⟩
theorem cells_any (h : HS) (w : World) (H : HeapRep w h) :
 Calls Tryz.prog 195 #[ptr h.hp] w fun e w' => e = .returned (.int .i64 (h.l.length : Nat)) ∧ w = w' := by
 obtain ⟨hp, slv, L⟩ := h; obtain ⟨sa, cap, rfl, -⟩ := H.shape; have R := cells_of H.head; go_enter Tryz.func195, Tryz.ntmps195
 go_wp2
 go_ret; exact ⟨by simp, rfl⟩
set_option maxHeartbeats 1000000 in
theorem get_any (h : HS) (o : O) (i : Int) (w : World) (H : HeapRep w h) :
 Calls Tryz.prog 72 #[ptr h.hp, o.val, .int .i64 i] w fun e w' => e = .returned (.tuple #[(getH h.l o i).1.val, .int .i64 (getH h.l o i).2]) ∧ Chg NoB w w' := by
 obtain ⟨hp, slv, L⟩ := h; obtain ⟨k, ex, n, a, l, s⟩ := o
 by_cases hE : findE (HS.l ⟨hp, slv, L⟩) ⟨k, ex, n, a, l, s⟩ ≠ 0
 · have hs : getH (HS.l ⟨hp, slv, L⟩) ⟨k, ex, n, a, l, s⟩ i = (O.nil, findE (HS.l ⟨hp, slv, L⟩) ⟨k, ex, n, a, l, s⟩) := by simp [getH, hE]
   rw [hs]
   have hb : (findE (HS.l ⟨hp, slv, L⟩) ⟨k, ex, n, a, l, s⟩ != 0) = true := by simpa using hE
   have FB := fun w' (H' : HeapRep w' ⟨hp, slv, L⟩) => find_bad ⟨hp, slv, L⟩ ⟨k, ex, n, a, l, s⟩ w' H' hE; generalize findE (HS.l ⟨hp, slv, L⟩) ⟨k, ex, n, a, l, s⟩ = fe at *; go_enter Tryz.func72, Tryz.ntmps72
   go_wp2_with fail
   refine (FB _ (H.pure (((Chg.refl NoB w).alloc _).alloc _))).mono ?_; rintro e w1 ⟨rfl, hb1⟩; have hB0 := hb1.blk (blk_alloc (blk_new w _) _) id; have hB1 := hb1.blk (blk_new1 w _ _) id; have H1 := (H.pure (((Chg.refl NoB w).alloc _).alloc _)).pure hb1; have XW := (((Chg.refl NoB w).alloc _).alloc _).pure hb1; clear hb1; have R1 := cells_of hB1; have Z1 := free_of hB1; have l1 := blk_lt hB1; clear FB; go_wp2
   refine bodyPost_ret (v := .tuple #[O.nil.val, .int .i64 fe]) (by simp [results, Tryz.results72, go_sem, R1, l1, cell_set_at, O.nil]) rfl ⟨rfl, ?_⟩
   (repeat' (first | with_reducible assumption | with_reducible refine Chg.alloc ?_ _ | with_reducible refine Chg.drew ?_ | with_reducible refine Chg.drewN ?_ _ | with_reducible refine Chg.setCell ?_ (Or.inr ?_) _ | exact Nat.le_refl _ | exact Nat.le_add_right _ _ | (simp; done) | (simp; omega)))
 simp only [ne_eq, Decidable.not_not] at hE; obtain ⟨hn, hok, hx, hc, hk, hat, hle, hsz, -⟩ := findE_good H hE; have hsm := cell_small H hx; have FG := fun w' (H' : HeapRep w' ⟨hp, slv, L⟩) => find_good ⟨hp, slv, L⟩ ⟨k, ex, n, a, l, s⟩ w' H' hE hn
 have hs : getH (HS.l ⟨hp, slv, L⟩) ⟨k, ex, n, a, l, s⟩ i = (if i < 0 ∨ lenOf L[n.toNat].c ⟨k, ex, n, a, l, s⟩ ≤ i then (O.nil, 12) else if L[n.toNat].c.text then (⟨3, false, (L[n.toNat].c.bytes.getD (atOf ⟨k, ex, n, a, l, s⟩ + i).toNat 0).toNat, 0, 0, ⟨#[]⟩⟩, 0) else (L[n.toNat].c.items.getD (atOf ⟨k, ex, n, a, l, s⟩ + i).toNat O.nil, 0)) := by
  simp only at hc; simp [getH, hE, hc]
 rw [hs]; clear hs hE hc hk; simp only at hok hx hle hsz hsm FG; generalize L[n.toNat] = x at *; generalize atOf ⟨k, ex, n, a, l, s⟩ = p at *; generalize lenOf x.c ⟨k, ex, n, a, l, s⟩ = z at *
 by_cases hi : i < 0 ∨ z ≤ i
 · rw [if_pos hi]; obtain ⟨u, v, huv⟩ := x.ptrs_eq
   have hval : x.val = .agg #[.pointer u, .pointer v] := by unfold PC.val; rw [huv]
   rw [hval] at FG; clear hval huv
   by_cases hi1 : i < 0
   all_goals
    (try have hi2 : z ≤ i := by omega)
    go_enter Tryz.func72, Tryz.ntmps72
    go_wp2_with fail
    refine (FG _ (H.pure (((Chg.refl NoB w).alloc _).alloc _))).mono ?_; rintro e w1 ⟨rfl, hb1⟩; have hB0 := hb1.blk (blk_alloc (blk_new w _) _) id; have hB1 := hb1.blk (blk_new1 w _ _) id; have H1 := (H.pure (((Chg.refl NoB w).alloc _).alloc _)).pure hb1; have XW := (((Chg.refl NoB w).alloc _).alloc _).pure hb1; clear hb1; have R1 := cells_of hB1; have Z1 := free_of hB1; have l1 := blk_lt hB1; clear FG; go_wp2
    refine bodyPost_ret (v := .tuple #[O.nil.val, .int .i64 12]) (by simp [results, Tryz.results72, go_sem, R1, l1, cell_set_at, O.nil]) rfl ⟨rfl, ?_⟩
    (repeat' (first | with_reducible assumption | with_reducible refine Chg.alloc ?_ _ | with_reducible refine Chg.drew ?_ | with_reducible refine Chg.drewN ?_ _ | with_reducible refine Chg.setCell ?_ (Or.inr ?_) _ | exact Nat.le_refl _ | exact Nat.le_add_right _ _ | (simp; done) | (simp; omega)))
 rw [if_neg hi]
 have hi0 : 0 ≤ i := by omega
 have hi1 : i < z := by omega
 have hA : IntKind.i64.wrap (p + i) = p + i := IntWalk.i64_in _ (by omega)
 have hj : (p + i).toNat < x.c.size := by omega
 have hj0 : 0 ≤ p + i := by omega
 by_cases ht : x.c.text = true
 · have hval : x.val = .agg #[.pointer none, ptr x.p] := by simp [PC.val, PC.ptrs, ht]
   rw [hval] at FG; rw [if_pos ht]
   have hj1 : (p + i).toNat < x.c.bytes.length := by simpa [C.size, ht] using hj
   have hj2 : p + i < (x.c.bytes.length : Int) := by omega
   have hg : x.c.bytes.getD (p + i).toNat 0 = x.c.bytes[(p + i).toNat] := by simp [hj1]
   rw [hg]; clear hg
   obtain ⟨b, hb⟩ : ∃ b, b = x.c.bytes[(p + i).toNat] := ⟨_, rfl⟩
   rw [← hb]; go_enter Tryz.func72, Tryz.ntmps72
   go_wp2_with fail
   refine (FG _ (H.pure (((Chg.refl NoB w).alloc _).alloc _))).mono ?_; rintro e w1 ⟨rfl, hb1⟩; have hB0 := hb1.blk (blk_alloc (blk_new w _) _) id; have hB1 := hb1.blk (blk_new1 w _ _) id; have H1 := (H.pure (((Chg.refl NoB w).alloc _).alloc _)).pure hb1; have XW := (((Chg.refl NoB w).alloc _).alloc _).pure hb1; clear hb1; have hok1 := H1.cell x hx; have hhd := hok1.head.1 ht; obtain ⟨g, cap, cur, fz, hsl, hcur, -, -, -, hby⟩ := hok1.byte ht hj1; rw [hsl] at hhd; have Rx := Chg.cells (S := NoB) hhd id; have lx := blk_lt hhd; have Rg := Chg.cells (S := NoB) hcur id; have lg := blk_lt hcur; have X := Chg.refl NoB w1; have R1 := cells_of hB1; have Z1 := free_of hB1; have l1 := blk_lt hB1; clear FG; rw [← hb] at hby; clear hb; go_wp2
   refine bodyPost_ret (v := .tuple #[.agg #[.int .i64 3, .bool false, .int .i64 b.toNat, .int .i64 0, .int .i64 0, .string ⟨#[]⟩], .int .i64 0]) (by simp [results, Tryz.results72, go_sem, R1, l1, cell_set_at, wrap_byte]) rfl ⟨rfl, ?_⟩
   (repeat' (first | with_reducible assumption | with_reducible refine Chg.alloc ?_ _ | with_reducible refine Chg.drew ?_ | with_reducible refine Chg.drewN ?_ _ | with_reducible refine Chg.setCell ?_ (Or.inr ?_) _ | exact Nat.le_refl _ | exact Nat.le_add_right _ _ | (simp; done) | (simp; omega)))
 · have htf : x.c.text = false := by simpa using ht
   have hval : x.val = .agg #[ptr x.p, .pointer none] := by simp [PC.val, PC.ptrs, htf]
   rw [hval] at FG; rw [if_neg ht]
   have hj1 : (p + i).toNat < x.c.items.length := by simpa [C.size, htf] using hj
   have hj2 : p + i < (x.c.items.length : Int) := by omega
   have hg : x.c.items.getD (p + i).toNat O.nil = x.c.items[(p + i).toNat] := by simp [hj1]
   rw [hg]; clear hg
   obtain ⟨b, hb⟩ : ∃ b, b = x.c.items[(p + i).toNat] := ⟨_, rfl⟩
   rw [← hb]; go_enter Tryz.func72, Tryz.ntmps72
   go_wp2_with fail
   refine (FG _ (H.pure (((Chg.refl NoB w).alloc _).alloc _))).mono ?_; rintro e w1 ⟨rfl, hb1⟩; have hB0 := hb1.blk (blk_alloc (blk_new w _) _) id; have hB1 := hb1.blk (blk_new1 w _ _) id; have H1 := (H.pure (((Chg.refl NoB w).alloc _).alloc _)).pure hb1; have XW := (((Chg.refl NoB w).alloc _).alloc _).pure hb1; clear hb1; have hok1 := H1.cell x hx; have hhd := hok1.head.2 htf; obtain ⟨g, cap, cur, fz, hsl, hcur, -, -, -, y0, y1, y2, y3, y4, y5⟩ := hok1.item htf hj1; rw [hsl] at hhd; have Rx := Chg.cells (S := NoB) hhd id; have lx := blk_lt hhd; have Rg := Chg.cells (S := NoB) hcur id; have lg := blk_lt hcur; have X := Chg.refl NoB w1; have R1 := cells_of hB1; have Z1 := free_of hB1; have l1 := blk_lt hB1; clear FG; rw [← hb] at y0 y1 y2 y3 y4 y5; clear hb; go_wp2
   refine bodyPost_ret (v := .tuple #[b.val, .int .i64 0]) (by simp [results, Tryz.results72, go_sem, R1, l1, cell_set_at]) rfl ⟨rfl, ?_⟩
   (repeat' (first | with_reducible assumption | with_reducible refine Chg.alloc ?_ _ | with_reducible refine Chg.drew ?_ | with_reducible refine Chg.drewN ?_ _ | with_reducible refine Chg.setCell ?_ (Or.inr ?_) _ | exact Nat.le_refl _ | exact Nat.le_add_right _ _ | (simp; done) | (simp; omega)))
end Go.Proofs.YtpiomapnmempoaaGreat
