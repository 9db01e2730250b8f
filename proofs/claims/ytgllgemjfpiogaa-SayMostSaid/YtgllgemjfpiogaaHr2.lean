/- Walks: (*Heap).May. -/
import Derived.Test.YtgllgemjfpiogaaHr1
import Derived.Test.YtgllgemjfpiogaaMay
namespace Go.Proofs.Ytgllgemjfpiogaa
open Go.RowKit

/-- The place of a cell's two pointers in the row of a heap's cells. -/
theorem PC.ptrs_eq (x : PC) : ∃ u v, x.ptrs = [.pointer u, .pointer v] := by
  unfold PC.ptrs; split <;> exact ⟨_, _, rfl⟩
theorem HeapRep.at' {w : World} {hp : Nat} {slv : Value} {L : List PC} (H : HeapRep w ⟨hp, slv, L⟩) {i : Nat} (hi : i < L.length) :
    ∃ g cap cur fz u v, slv = .slice (some ⟨g, 0, none⟩) L.length cap ∧ w.heap[g]? = some (.cells cur 94 fz) ∧ cur[i * 2]? = some (.pointer u) ∧ cur[i * 2 + 1]? = some (.pointer v) ∧ L[i].ptrs = [.pointer u, .pointer v] ∧ g < w.heap.size := by
  obtain ⟨g, cap, cur, fz, h1, h2, h3, h4, h5, h6, h7⟩ := H.row.some' (by show 0 < L.length; omega)
  obtain ⟨u, v, hp2⟩ := L[i].ptrs_eq
  refine ⟨g, cap, cur, fz, u, v, h1, h2, ?_, ?_, hp2, blk_lt h2⟩
  · rw [h7 _ (by show i * 2 < L.length * 2; omega)]
    have := flat_get PC.ptrs 2 ptrs_length 0 (by omega) L i
    simp only [Nat.add_zero] at this
    show (L.flatMap PC.ptrs)[i * 2]? = _
    rw [this, List.getElem?_eq_getElem hi]; simp [hp2]
  · rw [h7 _ (by show i * 2 + 1 < L.length * 2; omega)]
    show (L.flatMap PC.ptrs)[i * 2 + 1]? = _
    rw [flat_get PC.ptrs 2 ptrs_length 1 (by omega) L i, List.getElem?_eq_getElem hi]; simp [hp2]

theorem HeapRep.shape {w : World} {hp : Nat} {slv : Value} {L : List PC} (H : HeapRep w ⟨hp, slv, L⟩) : ∃ a cap, slv = .slice a L.length cap ∧ L.length ≤ cap := Row.shape H.row

theorem mayO_held {o : O} (hm : mayO o = true) (hh : held o = true) : 0 ≤ o.n ∧ o.n ≤ 40000 ∧ 0 ≤ o.pos ∧ o.pos ≤ 40000 ∧ 0 ≤ o.len ∧ o.len ≤ 40000 := by
  obtain ⟨k, ex, n, a, l, s⟩ := o
  simp only [held, Bool.or_eq_true, beq_iff_eq] at hh
  simp only [mayO, Bool.and_eq_true, eqO_iff, bareO, O.nil] at hm
  obtain ⟨h1, h2⟩ := hm
  rcases hh with (rfl | rfl) | rfl <;> simp at h1 h2 ⊢ <;> omega

set_option maxHeartbeats 1000000 in
theorem hmay_any (h : HS) (o : O) (w : World) (H : HeapRep w h) :
   Calls Try.prog 37 #[ptr h.hp, o.val] w fun e w' => e = .returned (.bool (mayH h.l o)) ∧ Chg NoB w w' := by
  obtain ⟨hp, slv, L⟩ := h
  obtain ⟨k, ex, n, a, l, s⟩ := o
  have hl := blk_lt H.head
  by_cases hm : mayO ⟨k, ex, n, a, l, s⟩ = false
  · have hf : mayH (HS.l ⟨hp, slv, L⟩) ⟨k, ex, n, a, l, s⟩ = false := by simp [mayH, hm]
    rw [hf]
    go_enter Try.func37, Try.ntmps37
    go_wp2_with fail
    refine (may_any ⟨k, ex, n, a, l, s⟩ _).mono ?_
    rintro e w1 ⟨rfl, hb1⟩
    go_wp2
    go_ret
    exact ⟨rfl, ((Chg.refl _ _).alloc _).pure hb1⟩
  simp only [Bool.not_eq_false] at hm
  by_cases hh : held ⟨k, ex, n, a, l, s⟩ = false
  · have hf : mayH (HS.l ⟨hp, slv, L⟩) ⟨k, ex, n, a, l, s⟩ = true := by simp [mayH, hm, hh]
    rw [hf]
    go_enter Try.func37, Try.ntmps37
    go_wp2_with fail
    refine (may_any ⟨k, ex, n, a, l, s⟩ _).mono ?_
    rintro e w1 ⟨rfl, hb1⟩
    have hB := hb1.blk (blk_new w _) id
    have R := Chg.cells (S := NoB) hB id
    have X := Chg.refl NoB w1
    go_wp2_with fail
    refine (held_any ⟨k, ex, n, a, l, s⟩ _).mono ?_
    rintro e w2 ⟨rfl, hb2⟩
    go_wp2
    go_ret
    exact ⟨rfl, (((Chg.refl _ _).alloc _).pure hb1).pure hb2⟩
  simp only [Bool.not_eq_false] at hh
  obtain ⟨n0, n1, a0, a1, l0, l1⟩ := mayO_held hm hh
  simp only at n0 n1 a0 a1 l0 l1
  by_cases hn : (L.length : Int) ≤ n
  · have hf : mayH (HS.l ⟨hp, slv, L⟩) ⟨k, ex, n, a, l, s⟩ = false := by simp [mayH, hm, hh]; omega
    rw [hf]
    obtain ⟨sa, cap, rfl, hc⟩ := H.shape
    go_enter Try.func37, Try.ntmps37
    go_wp2_with fail
    refine (may_any ⟨k, ex, n, a, l, s⟩ _).mono ?_
    rintro e w1 ⟨rfl, hb1⟩
    have hB := hb1.blk (blk_new w _) id
    have H1 := (H.pure ((Chg.refl _ _).alloc _)).pure hb1
    have XW := ((Chg.refl NoB w).alloc _).pure hb1
    clear hb1
    have R := Chg.cells (S := NoB) hB id
    have Rh := Chg.cells (S := NoB) H1.head id
    have X := Chg.refl NoB w1
    go_wp2_with fail
    refine (held_any ⟨k, ex, n, a, l, s⟩ _).mono ?_
    rintro e w2 ⟨rfl, hb2⟩
    have X2 := X.pure hb2
    go_wp2_with fail
    have hd1 : decide ((L.length : Int) ≤ n) = true := by simp; omega
    go_quiet (fail)
    go_wp2
    go_ret
    exact ⟨rfl, (XW.trans X2).drewN _⟩
  have hn' : n.toNat < L.length := by omega
  obtain ⟨g, cap, cur, fz, u, v, rfl, hg, hu, hv, huv, hgl⟩ := H.at' hn'
  have hx : L[n.toNat] ∈ L := List.getElem_mem hn'
  have hval : L[n.toNat].val = .agg #[.pointer u, .pointer v] := by unfold PC.val; rw [huv]
  have K1 : ∀ w, L[n.toNat].ok w → Calls Try.prog 64 #[.agg #[.pointer u, .pointer v]] w fun e w' => e = .returned (.int .i64 L[n.toNat].c.kind) ∧ Chg NoB w w' := fun w h => by rw [← hval]; exact kind_any _ w h
  have K2 : ∀ w, L[n.toNat].ok w → Calls Try.prog 65 #[.agg #[.pointer u, .pointer v]] w fun e w' => e = .returned (.int .i64 L[n.toNat].c.size) ∧ Chg NoB w w' := fun w h => by rw [← hval]; exact size_any _ w h
  have hmay : mayH (HS.l ⟨hp, .slice (some ⟨g, 0, none⟩) L.length cap, L⟩) ⟨k, ex, n, a, l, s⟩ = (decide (L[n.toNat].c.kind = k) && decide (a + l ≤ L[n.toNat].c.size)) := by
    simp [mayH, hm, hh, HS.l, List.getElem?_map, List.getElem?_eq_getElem hn']; intro h; omega
  rw [hmay]
  clear hmay hval huv
  have hA : IntKind.i64.wrap (a + l) = a + l := IntWalk.i64_in _ (by omega)
  have hd1 : decide ((L.length : Int) ≤ n) = false := by simp; omega
  generalize hk : L[n.toNat].c.kind = kk at *
  generalize hz : L[n.toNat].c.size = zz at *
  generalize L[n.toNat] = x at *
  clear hk hz
  by_cases hkk : kk = k
  · subst hkk
    go_enter Try.func37, Try.ntmps37
    go_wp2_with fail
    refine (may_any ⟨kk, ex, n, a, l, s⟩ _).mono ?_
    rintro e w1 ⟨rfl, hb1⟩
    have hB := hb1.blk (blk_new w _) id
    have hg1 := hb1.blk (blk_alloc hg _) id
    have H1 := (H.pure ((Chg.refl _ _).alloc _)).pure hb1
    have XW := ((Chg.refl NoB w).alloc _).pure hb1
    clear hb1
    have R := Chg.cells (S := NoB) hB id
    have Rh := Chg.cells (S := NoB) H1.head id
    have Rg := Chg.cells (S := NoB) hg1 id
    have X := Chg.refl NoB w1
    go_wp2_with fail
    refine (held_any ⟨kk, ex, n, a, l, s⟩ _).mono ?_
    rintro e w2 ⟨rfl, hb2⟩
    have X2 := X.pure hb2
    clear hb2
    go_wp2_with fail
    go_region_held3 (fun w' => Chg NoB w1 w') (first | assumption | (exact Chg.drew (by assumption)) | (exact Chg.pure (by assumption) (by assumption)))
      ((go_at_call 64; refine (K1 _ ((H1.cell _ hx).chg (S := NoB) (by assumption) (fun _ _ e => e))).mono ?_; rintro e w4 ⟨rfl, hb4⟩))
    go_wp2_with fail
    go_region_held3 (fun w' => Chg NoB w1 w') (first | assumption | (exact Chg.drew (by assumption)) | (exact Chg.pure (by assumption) (by assumption)))
      ((go_at_call 65; refine (K2 _ ((H1.cell _ hx).chg (S := NoB) (by assumption) (fun _ _ e => e))).mono ?_; rintro e w4 ⟨rfl, hb4⟩))
    go_wp2
    go_ret
    exact ⟨by simp, XW.trans (by assumption)⟩
  · have hkb : (kk == k) = false := by simpa using hkk
    have hkc : (kk != k) = true := by simpa using hkk
    simp only [hkk, decide_false, Bool.false_and]
    go_enter Try.func37, Try.ntmps37
    go_wp2_with fail
    refine (may_any ⟨k, ex, n, a, l, s⟩ _).mono ?_
    rintro e w1 ⟨rfl, hb1⟩
    have hB := hb1.blk (blk_new w _) id
    have hg1 := hb1.blk (blk_alloc hg _) id
    have H1 := (H.pure ((Chg.refl _ _).alloc _)).pure hb1
    have XW := ((Chg.refl NoB w).alloc _).pure hb1
    clear hb1
    have R := Chg.cells (S := NoB) hB id
    have Rh := Chg.cells (S := NoB) H1.head id
    have Rg := Chg.cells (S := NoB) hg1 id
    have X := Chg.refl NoB w1
    go_wp2_with fail
    refine (held_any ⟨k, ex, n, a, l, s⟩ _).mono ?_
    rintro e w2 ⟨rfl, hb2⟩
    have X2 := X.pure hb2
    clear hb2
    go_wp2_with fail
    go_region_held3 (fun w' => Chg NoB w1 w') (first | assumption | (exact Chg.drew (by assumption)) | (exact Chg.pure (by assumption) (by assumption)))
      ((go_at_call 64; refine (K1 _ ((H1.cell _ hx).chg (S := NoB) (by assumption) (fun _ _ e => e))).mono ?_; rintro e w4 ⟨rfl, hb4⟩))
    go_wp2
    go_ret
    exact ⟨rfl, XW.trans (by assumption)⟩
end Go.Proofs.Ytgllgemjfpiogaa
