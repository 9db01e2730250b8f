/- Walks: Size, Get, Cells, Used. -/
import Derived.Test.YtgllgemjfpiogaaHr3
namespace Go.Proofs.Ytgllgemjfpiogaa
open Go.RowKit

/-- What find gives at a good object: the cell, and bounds. -/
theorem findE_good {h : HS} {w : World} (H : HeapRep w h) {o : O} (hE : findE h.l o = 0) : ∃ hn : o.n.toNat < h.L.length, (h.L[o.n.toNat]).ok w ∧ h.L[o.n.toNat] ∈ h.L ∧ h.l[o.n.toNat]? = some (h.L[o.n.toNat]).c ∧
    (h.L[o.n.toNat]).c.kind = o.kind ∧ 0 ≤ atOf o ∧ 0 ≤ lenOf (h.L[o.n.toNat]).c o ∧ atOf o + lenOf (h.L[o.n.toNat]).c o ≤ (h.L[o.n.toNat]).c.size ∧ held o = true := by
  obtain ⟨hh, hm, c, hc, hk, hs, hn⟩ := findE_zero hE
  obtain ⟨n0, n1, a0, a1, l0, l1⟩ := mayO_held hm hh
  have hn' : o.n.toNat < h.L.length := by simp only [HS.l, List.length_map] at hn; omega
  have hx : h.L[o.n.toNat] ∈ h.L := List.getElem_mem hn'
  have hc' : h.l[o.n.toNat]? = some (h.L[o.n.toNat]).c := by simp [HS.l, hn']
  have : c = (h.L[o.n.toNat]).c := by rw [hc'] at hc; exact (Option.some.inj hc).symm
  subst this
  refine ⟨hn', H.cell _ hx, hx, hc', hk, ?_, ?_, ?_, hh⟩ <;> simp only [atOf, lenOf] <;> split <;> omega
theorem le_sum : ∀ (l : List Nat) (x : Nat), x ∈ l → x ≤ l.sum
  | [], _, h => by cases h
  | y :: l, x, h => by
    rcases List.mem_cons.1 h with rfl | h
    · simp
    · have := le_sum l x h; simp; omega
theorem cell_small {h : HS} {w : World} (H : HeapRep w h) {x : PC} (hx : x ∈ h.L) : x.c.size ≤ 40000 := by
  refine Nat.le_trans ?_ H.room
  unfold used
  exact le_sum _ _ (List.mem_map.2 ⟨x.c, List.mem_map.2 ⟨x, hx, rfl⟩, rfl⟩)

theorem wrap_byte (b : UInt8) : wrap64 (b.toNat : Int) = b.toNat := IntWalk.wrap64_in _ (by have := b.toNat_lt; omega)

def sizeH (L : List C) (o : O) : Int × Int :=
  if findE L o ≠ 0 then (0, findE L o) else ((L[o.n.toNat]?).elim 0 (fun c => lenOf c o), 0)

theorem hsize_any (h : HS) (o : O) (w : World) (H : HeapRep w h) :
   Calls Try.prog 68 #[ptr h.hp, o.val] w fun e w' => e = .returned (.tuple #[.int .i64 (sizeH h.l o).1, .int .i64 (sizeH h.l o).2]) ∧ Chg NoB w w' := by
  obtain ⟨hp, slv, L⟩ := h
  obtain ⟨k, ex, n, a, l, s⟩ := o
  by_cases hE : findE (HS.l ⟨hp, slv, L⟩) ⟨k, ex, n, a, l, s⟩ = 0
  · obtain ⟨hn, -, -, hc, -⟩ := findE_good H hE
    have hs : sizeH (HS.l ⟨hp, slv, L⟩) ⟨k, ex, n, a, l, s⟩ = (lenOf L[n.toNat].c ⟨k, ex, n, a, l, s⟩, 0) := by simp only at hc; simp [sizeH, hE, hc]
    rw [hs]
    go_enter Try.func68, Try.ntmps68
    go_wp2_with fail
    refine (find_good ⟨hp, slv, L⟩ ⟨k, ex, n, a, l, s⟩ _ (H.pure ((Chg.refl NoB w).alloc _)) hE hn).mono ?_
    rintro e w1 ⟨rfl, hb1⟩
    have hB0 := hb1.blk (blk_new w _) id
    have H1 := (H.pure ((Chg.refl NoB w).alloc _)).pure hb1
    have XW := ((Chg.refl NoB w).alloc _).pure hb1
    clear hb1
    go_wp2
    go_ret2
    exact ⟨rfl, XW⟩
  · have hs : sizeH (HS.l ⟨hp, slv, L⟩) ⟨k, ex, n, a, l, s⟩ = (0, findE (HS.l ⟨hp, slv, L⟩) ⟨k, ex, n, a, l, s⟩) := by simp [sizeH, hE]
    rw [hs]
    go_enter Try.func68, Try.ntmps68
    go_wp2_with fail
    refine (find_bad ⟨hp, slv, L⟩ ⟨k, ex, n, a, l, s⟩ _ (H.pure ((Chg.refl NoB w).alloc _)) hE).mono ?_
    rintro e w1 ⟨rfl, hb1⟩
    have hB0 := hb1.blk (blk_new w _) id
    have H1 := (H.pure ((Chg.refl NoB w).alloc _)).pure hb1
    have XW := ((Chg.refl NoB w).alloc _).pure hb1
    clear hb1
    go_wp2
    go_ret2
    exact ⟨rfl, XW⟩

theorem used_any (h : HS) (w : World) (H : HeapRep w h) :
   Calls Try.prog 34 #[ptr h.hp] w fun e w' => e = .returned (.int .i64 (used h.l : Nat)) ∧ w = w' := by
  obtain ⟨hp, slv, L⟩ := h
  have R := cells_of H.head
  go_enter Try.func34, Try.ntmps34
  go_wp2
  go_ret
  exact ⟨by simp, rfl⟩

set_option maxHeartbeats 1000000 in
theorem get_any (h : HS) (o : O) (i : Int) (w : World) (H : HeapRep w h) :
   Calls Try.prog 41 #[ptr h.hp, o.val, .int .i64 i] w fun e w' => e = .returned (.tuple #[(getH h.l o i).1.val, .int .i64 (getH h.l o i).2]) ∧ Chg NoB w w' := by
  obtain ⟨hp, slv, L⟩ := h
  obtain ⟨k, ex, n, a, l, s⟩ := o
  by_cases hE : findE (HS.l ⟨hp, slv, L⟩) ⟨k, ex, n, a, l, s⟩ ≠ 0
  · have hs : getH (HS.l ⟨hp, slv, L⟩) ⟨k, ex, n, a, l, s⟩ i = (O.nil, findE (HS.l ⟨hp, slv, L⟩) ⟨k, ex, n, a, l, s⟩) := by simp [getH, hE]
    rw [hs]
    have hb : (findE (HS.l ⟨hp, slv, L⟩) ⟨k, ex, n, a, l, s⟩ != 0) = true := by simpa using hE
    have FB := fun w' (H' : HeapRep w' ⟨hp, slv, L⟩) => find_bad ⟨hp, slv, L⟩ ⟨k, ex, n, a, l, s⟩ w' H' hE
    generalize findE (HS.l ⟨hp, slv, L⟩) ⟨k, ex, n, a, l, s⟩ = fe at *
    go_enter Try.func41, Try.ntmps41
    go_wp2_with fail
    refine (FB _ (H.pure (((Chg.refl NoB w).alloc _).alloc _))).mono ?_
    rintro e w1 ⟨rfl, hb1⟩
    have hB0 := hb1.blk (blk_alloc (blk_new w _) _) id
    have hB1 := hb1.blk (blk_new1 w _ _) id
    have H1 := (H.pure (((Chg.refl NoB w).alloc _).alloc _)).pure hb1
    have XW := (((Chg.refl NoB w).alloc _).alloc _).pure hb1
    clear hb1
    have R1 := cells_of hB1
    have Z1 := free_of hB1
    have l1 := blk_lt hB1
    clear FB
    go_wp2
    refine bodyPost_ret (v := .tuple #[O.nil.val, .int .i64 fe]) (by simp [results, Try.results41, go_sem, R1, l1, cell_set_at, O.nil]) rfl ⟨rfl, ?_⟩
    (repeat' (first | with_reducible assumption | with_reducible refine Chg.alloc ?_ _ | with_reducible refine Chg.drew ?_ | with_reducible refine Chg.drewN ?_ _ | with_reducible refine Chg.setCell ?_ (Or.inr ?_) _ | exact Nat.le_refl _ | exact Nat.le_add_right _ _ | (simp; done) | (simp; omega)))
  simp only [ne_eq, Decidable.not_not] at hE
  obtain ⟨hn, hok, hx, hc, hk, hat, hle, hsz, -⟩ := findE_good H hE
  have hsm := cell_small H hx
  have FG := fun w' (H' : HeapRep w' ⟨hp, slv, L⟩) => find_good ⟨hp, slv, L⟩ ⟨k, ex, n, a, l, s⟩ w' H' hE hn
  have hs : getH (HS.l ⟨hp, slv, L⟩) ⟨k, ex, n, a, l, s⟩ i = (if i < 0 ∨ lenOf L[n.toNat].c ⟨k, ex, n, a, l, s⟩ ≤ i then (O.nil, 12) else if L[n.toNat].c.text then (⟨3, false, (L[n.toNat].c.bytes.getD (atOf ⟨k, ex, n, a, l, s⟩ + i).toNat 0).toNat, 0, 0, ⟨#[]⟩⟩, 0) else (L[n.toNat].c.items.getD (atOf ⟨k, ex, n, a, l, s⟩ + i).toNat O.nil, 0)) := by
    simp only at hc; simp [getH, hE, hc]
  rw [hs]
  clear hs hE hc hk
  simp only at hok hx hle hsz hsm FG
  generalize L[n.toNat] = x at *
  generalize atOf ⟨k, ex, n, a, l, s⟩ = p at *
  generalize lenOf x.c ⟨k, ex, n, a, l, s⟩ = z at *
  by_cases hi : i < 0 ∨ z ≤ i
  · rw [if_pos hi]
    obtain ⟨u, v, huv⟩ := x.ptrs_eq
    have hval : x.val = .agg #[.pointer u, .pointer v] := by unfold PC.val; rw [huv]
    rw [hval] at FG
    clear hval huv
    by_cases hi1 : i < 0
    all_goals
      (try have hi2 : z ≤ i := by omega)
      go_enter Try.func41, Try.ntmps41
      go_wp2_with fail
      refine (FG _ (H.pure (((Chg.refl NoB w).alloc _).alloc _))).mono ?_
      rintro e w1 ⟨rfl, hb1⟩
      have hB0 := hb1.blk (blk_alloc (blk_new w _) _) id
      have hB1 := hb1.blk (blk_new1 w _ _) id
      have H1 := (H.pure (((Chg.refl NoB w).alloc _).alloc _)).pure hb1
      have XW := (((Chg.refl NoB w).alloc _).alloc _).pure hb1
      clear hb1
      have R1 := cells_of hB1
      have Z1 := free_of hB1
      have l1 := blk_lt hB1
      clear FG
      go_wp2
      refine bodyPost_ret (v := .tuple #[O.nil.val, .int .i64 12]) (by simp [results, Try.results41, go_sem, R1, l1, cell_set_at, O.nil]) rfl ⟨rfl, ?_⟩
      (repeat' (first | with_reducible assumption | with_reducible refine Chg.alloc ?_ _ | with_reducible refine Chg.drew ?_ | with_reducible refine Chg.drewN ?_ _ | with_reducible refine Chg.setCell ?_ (Or.inr ?_) _ | exact Nat.le_refl _ | exact Nat.le_add_right _ _ | (simp; done) | (simp; omega)))
  rw [if_neg hi]
  have hi0 : 0 ≤ i := by omega
  have hi1 : i < z := by omega
  have hA : IntKind.i64.wrap (p + i) = p + i := IntWalk.i64_in _ (by omega)
  have hj : (p + i).toNat < x.c.size := by omega
  have hj0 : 0 ≤ p + i := by omega
  by_cases ht : x.c.text = true
  · have hval : x.val = .agg #[.pointer none, ptr x.p] := by simp [PC.val, PC.ptrs, ht]
    rw [hval] at FG
    rw [if_pos ht]
    have hj1 : (p + i).toNat < x.c.bytes.length := by simpa [C.size, ht] using hj
    have hj2 : p + i < (x.c.bytes.length : Int) := by omega
    have hg : x.c.bytes.getD (p + i).toNat 0 = x.c.bytes[(p + i).toNat] := by simp [hj1]
    rw [hg]
    clear hg
    obtain ⟨b, hb⟩ : ∃ b, b = x.c.bytes[(p + i).toNat] := ⟨_, rfl⟩
    rw [← hb]
    go_enter Try.func41, Try.ntmps41
    go_wp2_with fail
    refine (FG _ (H.pure (((Chg.refl NoB w).alloc _).alloc _))).mono ?_
    rintro e w1 ⟨rfl, hb1⟩
    have hB0 := hb1.blk (blk_alloc (blk_new w _) _) id
    have hB1 := hb1.blk (blk_new1 w _ _) id
    have H1 := (H.pure (((Chg.refl NoB w).alloc _).alloc _)).pure hb1
    have XW := (((Chg.refl NoB w).alloc _).alloc _).pure hb1
    clear hb1
    have hok1 := H1.cell x hx
    have hhd := hok1.head.1 ht
    obtain ⟨g, cap, cur, fz, hsl, hcur, -, -, -, hby⟩ := hok1.byte ht hj1
    rw [hsl] at hhd
    have Rx := Chg.cells (S := NoB) hhd id
    have lx := blk_lt hhd
    have Rg := Chg.cells (S := NoB) hcur id
    have lg := blk_lt hcur
    have X := Chg.refl NoB w1
    have R1 := cells_of hB1
    have Z1 := free_of hB1
    have l1 := blk_lt hB1
    clear FG
    rw [← hb] at hby
    clear hb
    go_wp2
    refine bodyPost_ret (v := .tuple #[.agg #[.int .i64 3, .bool false, .int .i64 b.toNat, .int .i64 0, .int .i64 0, .string ⟨#[]⟩], .int .i64 0]) (by simp [results, Try.results41, go_sem, R1, l1, cell_set_at, wrap_byte]) rfl ⟨rfl, ?_⟩
    (repeat' (first | with_reducible assumption | with_reducible refine Chg.alloc ?_ _ | with_reducible refine Chg.drew ?_ | with_reducible refine Chg.drewN ?_ _ | with_reducible refine Chg.setCell ?_ (Or.inr ?_) _ | exact Nat.le_refl _ | exact Nat.le_add_right _ _ | (simp; done) | (simp; omega)))
  · have htf : x.c.text = false := by simpa using ht
    have hval : x.val = .agg #[ptr x.p, .pointer none] := by simp [PC.val, PC.ptrs, htf]
    rw [hval] at FG
    rw [if_neg ht]
    have hj1 : (p + i).toNat < x.c.items.length := by simpa [C.size, htf] using hj
    have hj2 : p + i < (x.c.items.length : Int) := by omega
    have hg : x.c.items.getD (p + i).toNat O.nil = x.c.items[(p + i).toNat] := by simp [hj1]
    rw [hg]
    clear hg
    obtain ⟨b, hb⟩ : ∃ b, b = x.c.items[(p + i).toNat] := ⟨_, rfl⟩
    rw [← hb]
    go_enter Try.func41, Try.ntmps41
    go_wp2_with fail
    refine (FG _ (H.pure (((Chg.refl NoB w).alloc _).alloc _))).mono ?_
    rintro e w1 ⟨rfl, hb1⟩
    have hB0 := hb1.blk (blk_alloc (blk_new w _) _) id
    have hB1 := hb1.blk (blk_new1 w _ _) id
    have H1 := (H.pure (((Chg.refl NoB w).alloc _).alloc _)).pure hb1
    have XW := (((Chg.refl NoB w).alloc _).alloc _).pure hb1
    clear hb1
    have hok1 := H1.cell x hx
    have hhd := hok1.head.2 htf
    obtain ⟨g, cap, cur, fz, hsl, hcur, -, -, -, y0, y1, y2, y3, y4, y5⟩ := hok1.item htf hj1
    rw [hsl] at hhd
    have Rx := Chg.cells (S := NoB) hhd id
    have lx := blk_lt hhd
    have Rg := Chg.cells (S := NoB) hcur id
    have lg := blk_lt hcur
    have X := Chg.refl NoB w1
    have R1 := cells_of hB1
    have Z1 := free_of hB1
    have l1 := blk_lt hB1
    clear FG
    rw [← hb] at y0 y1 y2 y3 y4 y5
    clear hb
    go_wp2
    refine bodyPost_ret (v := .tuple #[b.val, .int .i64 0]) (by simp [results, Try.results41, go_sem, R1, l1, cell_set_at]) rfl ⟨rfl, ?_⟩
    (repeat' (first | with_reducible assumption | with_reducible refine Chg.alloc ?_ _ | with_reducible refine Chg.drew ?_ | with_reducible refine Chg.drewN ?_ _ | with_reducible refine Chg.setCell ?_ (Or.inr ?_) _ | exact Nat.le_refl _ | exact Nat.le_add_right _ _ | (simp; done) | (simp; omega)))
end Go.Proofs.Ytgllgemjfpiogaa
