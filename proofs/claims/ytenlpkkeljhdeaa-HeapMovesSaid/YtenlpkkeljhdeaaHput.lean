/- Walk: Put. -/
import Derived.Test.YtenlpkkeljhdeaaHcp
import Derived.StillTailTactics
namespace Go.Proofs.Ytenlpkkeljhdeaa
open Go.RowKit

/-- What Put answers, and leaves. -/
def putH (L : List C) (o : O) (i : Int) (q : O) : List C × Int :=
  if findE L o ≠ 0 then (L, findE L o)
  else if findE L q ≠ 0 then (L, findE L q)
  else if o.kind = 10 ∨ o.kind ≠ q.kind then (L, 6)
  else match L[o.n.toNat]?, L[q.n.toNat]? with
    | some c, some d =>
      if ¬ (0 ≤ i ∧ 0 ≤ lenOf d q ∧ i ≤ lenOf c o ∧ lenOf d q ≤ lenOf c o - i) then (L, 12)
      else if c.locked then (L, 1)
      else if c.text then (L.set o.n.toNat { c with bytes := splice c.bytes (atOf o + i).toNat ((d.bytes.drop (atOf q).toNat).take (lenOf d q).toNat) }, 0)
      else (L.set o.n.toNat { c with items := splice c.items (atOf o + i).toNat ((d.items.drop (atOf q).toNat).take (lenOf d q).toNat) }, 0)
    | _, _ => (L, 0)
theorem splice_map {α β : Type} (f : α → β) (L : List α) (o : Nat) (cs : List α) : (splice L o cs).map f = splice (L.map f) o (cs.map f) := by
  simp [splice]
theorem splice_flat (L M : List O) (o : Nat) : (splice L o M).flatMap O.cells = splice (L.flatMap O.cells) (o * 6) (M.flatMap O.cells) := by
  have hd : ∀ (L : List O) (p : Nat), (L.drop p).flatMap O.cells = (L.flatMap O.cells).drop (p * 6) := fun L p => by
    have := flat_drop_take L p L.length
    rw [List.take_of_length_le (by simp)] at this
    rw [this, List.take_of_length_le]
    rw [List.length_drop, flat_length O.cells 6 cells_length]; omega
  have ht : ∀ (L : List O) (p : Nat), (L.take p).flatMap O.cells = (L.flatMap O.cells).take (p * 6) := fun L p => by
    have := flat_drop_take L 0 p
    simpa using this
  unfold splice
  rw [List.flatMap_append, List.flatMap_append, ht, hd, flat_length O.cells 6 cells_length, Nat.add_mul]

set_option maxRecDepth 100000 in
set_option maxHeartbeats 4000000 in
theorem put_any (h : HS) (o : O) (i : Int) (q : O) (w : World) (H : HeapRep w h) :
   Calls Try.prog 27 #[ptr h.hp, o.val, .int .i64 i, q.val] w fun e w' => e = .returned (.int .i64 (putH h.l o i q).2) ∧ Next w h w' (putH h.l o i q).1 := by
  obtain ⟨hp, slv, L⟩ := h
  obtain ⟨k, ex, n, a, l, s⟩ := o
  obtain ⟨k', ex', n', a', l', s'⟩ := q
  by_cases hE : findE (HS.l ⟨hp, slv, L⟩) ⟨k, ex, n, a, l, s⟩ ≠ 0
  · have hs : putH (HS.l ⟨hp, slv, L⟩) ⟨k, ex, n, a, l, s⟩ i ⟨k', ex', n', a', l', s'⟩ = (L.map PC.c, findE (HS.l ⟨hp, slv, L⟩) ⟨k, ex, n, a, l, s⟩) := by simp [putH, hE]
    rw [hs]
    have hb : (findE (HS.l ⟨hp, slv, L⟩) ⟨k, ex, n, a, l, s⟩ != 0) = true := by simpa using hE
    have FB := fun w' (H' : HeapRep w' ⟨hp, slv, L⟩) => find_bad ⟨hp, slv, L⟩ ⟨k, ex, n, a, l, s⟩ w' H' hE
    generalize findE (HS.l ⟨hp, slv, L⟩) ⟨k, ex, n, a, l, s⟩ = fe at *
    go_enter Try.func27, Try.ntmps27
    go_wp2_with fail
    refine (FB _ (H.pure (((Chg.refl NoB w).alloc _).alloc _))).mono ?_
    rintro e w1 ⟨rfl, hb1⟩
    have hB0 := hb1.blk (blk_alloc (blk_new w _) _) id
    have hB1 := hb1.blk (blk_new1 w _ _) id
    have H1 := (H.pure (((Chg.refl NoB w).alloc _).alloc _)).pure hb1
    have XW := (((Chg.refl NoB w).alloc _).alloc _).pure hb1
    clear hb1
    go_wp2
    go_ret
    refine ⟨rfl, Next.same H ?_⟩
    (repeat' (first | with_reducible assumption | with_reducible refine Chg.alloc ?_ _ | with_reducible refine Chg.drew ?_ | with_reducible refine Chg.drewN ?_ _ | with_reducible refine Chg.setCell ?_ (Or.inr ?_) _ | exact Nat.le_refl _ | exact Nat.le_add_right _ _ | (simp; done) | (simp; omega)))
  simp only [ne_eq, Decidable.not_not] at hE
  obtain ⟨hn, hok, hx, hc, hk, hat, hle, hsz, -⟩ := findE_good H hE
  have hsm := cell_small H hx
  have FG := fun w' (H' : HeapRep w' ⟨hp, slv, L⟩) => find_good ⟨hp, slv, L⟩ ⟨k, ex, n, a, l, s⟩ w' H' hE hn
  simp only at hok hx hle hsz hsm FG hn hk
  by_cases hE' : findE (HS.l ⟨hp, slv, L⟩) ⟨k', ex', n', a', l', s'⟩ ≠ 0
  · have hs : putH (HS.l ⟨hp, slv, L⟩) ⟨k, ex, n, a, l, s⟩ i ⟨k', ex', n', a', l', s'⟩ = (L.map PC.c, findE (HS.l ⟨hp, slv, L⟩) ⟨k', ex', n', a', l', s'⟩) := by simp [putH, hE, hE']
    rw [hs]
    have hb : (findE (HS.l ⟨hp, slv, L⟩) ⟨k', ex', n', a', l', s'⟩ != 0) = true := by simpa using hE'
    have FB := fun w' (H' : HeapRep w' ⟨hp, slv, L⟩) => find_bad ⟨hp, slv, L⟩ ⟨k', ex', n', a', l', s'⟩ w' H' hE'
    generalize findE (HS.l ⟨hp, slv, L⟩) ⟨k', ex', n', a', l', s'⟩ = fe at *
    obtain ⟨u, v, huv⟩ := (L[n.toNat]).ptrs_eq
    have hval : (L[n.toNat]).val = .agg #[.pointer u, .pointer v] := by unfold PC.val; rw [huv]
    rw [hval] at FG
    clear hval huv hs hE hc hk hat hle hsz hok
    generalize atOf ⟨k, ex, n, a, l, s⟩ = p at *
    generalize lenOf (L[n.toNat]).c ⟨k, ex, n, a, l, s⟩ = z at *
    go_enter Try.func27, Try.ntmps27
    go_wp2_with fail
    refine (FG _ (H.pure (((Chg.refl NoB w).alloc _).alloc _))).mono ?_
    rintro e w1 ⟨rfl, hb1⟩
    have hB0 := hb1.blk (blk_alloc (blk_new w _) _) id
    have hB1 := hb1.blk (blk_new1 w _ _) id
    have H1 := (H.pure (((Chg.refl NoB w).alloc _).alloc _)).pure hb1
    have XW := (((Chg.refl NoB w).alloc _).alloc _).pure hb1
    clear hb1
    have R1 := cells_of (blk_alloc hB1 (.cells #[.pointer u, .pointer v] 87))
    clear FG
    go_wp2_with fail
    refine (FB _ (H1.pure ((Chg.refl NoB w1).alloc _))).mono ?_
    rintro e w2 ⟨rfl, hb2⟩
    have XW2 : Chg NoB w w2 := Chg.pure (by (repeat' (first | with_reducible assumption | with_reducible refine Chg.alloc ?_ _ | with_reducible refine Chg.drew ?_ | with_reducible refine Chg.drewN ?_ _ | with_reducible refine Chg.setCell ?_ (Or.inr ?_) _ | exact Nat.le_refl _ | exact Nat.le_add_right _ _ | (simp; done) | (simp; omega)))) hb2
    clear FB R1
    go_wp2
    go_ret
    refine ⟨rfl, Next.same H ?_⟩
    (repeat' (first | with_reducible assumption | with_reducible refine Chg.alloc ?_ _ | with_reducible refine Chg.drew ?_ | with_reducible refine Chg.drewN ?_ _ | with_reducible refine Chg.setCell ?_ (Or.inr ?_) _ | exact Nat.le_refl _ | exact Nat.le_add_right _ _ | (simp; done) | (simp; omega)))
  simp only [ne_eq, Decidable.not_not] at hE'
  obtain ⟨hn', hok', hx', hc', hk', hat', hle', hsz', -⟩ := findE_good H hE'
  have hsm' := cell_small H hx'
  have FP := fun w' (H' : HeapRep w' ⟨hp, slv, L⟩) => find_good ⟨hp, slv, L⟩ ⟨k', ex', n', a', l', s'⟩ w' H' hE' hn'
  simp only at hok' hx' hle' hsz' hsm' FP hn' hk'
  obtain ⟨x, hxe⟩ : ∃ x, x = L[n.toNat] := ⟨_, rfl⟩
  obtain ⟨p, hpe⟩ : ∃ p, p = atOf ⟨k, ex, n, a, l, s⟩ := ⟨_, rfl⟩
  obtain ⟨z, hze⟩ : ∃ z, z = lenOf x.c ⟨k, ex, n, a, l, s⟩ := ⟨_, rfl⟩
  obtain ⟨y, hye⟩ : ∃ y, y = L[n'.toNat] := ⟨_, rfl⟩
  obtain ⟨r, hre⟩ : ∃ r, r = atOf ⟨k', ex', n', a', l', s'⟩ := ⟨_, rfl⟩
  obtain ⟨m, hme⟩ : ∃ m, m = lenOf y.c ⟨k', ex', n', a', l', s'⟩ := ⟨_, rfl⟩
  have hs : putH (HS.l ⟨hp, slv, L⟩) ⟨k, ex, n, a, l, s⟩ i ⟨k', ex', n', a', l', s'⟩ = (if k = 10 ∨ k ≠ k' then (L.map PC.c, 6)
      else if ¬ (0 ≤ i ∧ 0 ≤ m ∧ i ≤ z ∧ m ≤ z - i) then (L.map PC.c, 12)
      else if x.c.locked then (L.map PC.c, 1)
      else if x.c.text then ((L.map PC.c).set n.toNat { x.c with bytes := splice x.c.bytes (p + i).toNat ((y.c.bytes.drop r.toNat).take m.toNat) }, 0)
      else ((L.map PC.c).set n.toNat { x.c with items := splice x.c.items (p + i).toNat ((y.c.items.drop r.toNat).take m.toNat) }, 0)) := by
    subst hxe hze hpe hye hre hme
    simp only at hc hc'; simp only [putH, hE, hE', hc, hc', ne_eq, not_true_eq_false, if_false]
  have HR := Hid.mk' hs
  clear hs hE hc hE' hc'
  rw [← hxe] at hok hx hle hsz hsm FG hk
  rw [← hpe] at hat hsz FG
  rw [← hze] at hle hsz FG
  rw [← hye] at hok' hx' hle' hsz' hsm' FP hk'
  rw [← hre] at hat' hsz' FP
  rw [← hme] at hle' hsz' FP
  clear hpe hze hre hme hye
  have HX : Hid (x = L[n.toNat]) := hxe
  clear hxe
  obtain ⟨u, v, huv⟩ := x.ptrs_eq
  have hval : x.val = .agg #[.pointer u, .pointer v] := by unfold PC.val; rw [huv]
  obtain ⟨u', v', huv'⟩ := y.ptrs_eq
  have hval' : y.val = .agg #[.pointer u', .pointer v'] := by unfold PC.val; rw [huv']
  rw [hval] at FG
  rw [hval'] at FP
  have KL := fun w (h : x.ok w) => locked_any x w h
  rw [hval] at KL
  clear hval hval'
  have HK := Hid.mk' hk
  have HK' := Hid.mk' hk'
  clear hk hk'
  have HU := Hid.mk' huv
  have HV := Hid.mk' huv'
  clear huv huv'
  go_enter Try.func27, Try.ntmps27
  go_wp2_with fail
  refine (FG _ (H.pure (((Chg.refl NoB w).alloc _).alloc _))).mono ?_
  rintro e w1 ⟨rfl, hb1⟩
  have hB0 := hb1.blk (blk_alloc (blk_new w _) _) id
  have hB1 := hb1.blk (blk_new1 w _ _) id
  have H1 := (H.pure (((Chg.refl NoB w).alloc _).alloc _)).pure hb1
  have XW := (((Chg.refl NoB w).alloc _).alloc _).pure hb1
  clear hb1
  have R1 := cells_of (blk_alloc hB1 (.cells #[.pointer u, .pointer v] 87))
  clear FG
  go_wp2_with fail
  refine (FP _ (H1.pure ((Chg.refl NoB w1).alloc _))).mono ?_
  rintro e w2 ⟨rfl, hb2⟩
  have hBc := hb2.blk (blk_new w1 _) id
  have hBo := hb2.blk (blk_alloc hB0 _) id
  have hBq := hb2.blk (blk_alloc hB1 _) id
  have H2 := (H1.pure ((Chg.refl NoB w1).alloc _)).pure hb2
  have XW2 : Chg NoB w w2 := Chg.pure (by (repeat' (first | with_reducible assumption | with_reducible refine Chg.alloc ?_ _ | with_reducible refine Chg.drew ?_ | with_reducible refine Chg.drewN ?_ _ | with_reducible refine Chg.setCell ?_ (Or.inr ?_) _ | exact Nat.le_refl _ | exact Nat.le_add_right _ _ | (simp; done) | (simp; omega)))) hb2
  clear FP R1 hb2 hB0 hB1 XW H1
  have Rc := Chg.cells (S := NoB) hBc id
  have lc := blk_lt hBc
  have Ro := Chg.cells (S := NoB) hBo id
  have lo := blk_lt hBo
  have Rq := Chg.cells (S := NoB) hBq id
  have lq := blk_lt hBq
  have X := Chg.refl NoB w2
  by_cases hk10 : k = 10
  · have e1 : (k == 10) = true := by simpa using hk10
    clear KL
    subst hk10
    go_wp2
    go_ret
    rw [HR.out, if_pos (by simp)]
    exact ⟨rfl, Next.same H (XW2.alloc _)⟩
  have e1 : (k == 10) = false := by simpa using hk10
  by_cases hkk : k = k'
  rotate_left
  · have e2 : (k != k') = true := by simpa using hkk
    have e3 : (k == k') = false := by simpa using hkk
    clear KL
    go_wp2
    go_ret
    rw [HR.out, if_pos (by simp [hkk])]
    exact ⟨rfl, Next.same H (XW2.alloc _)⟩
  subst hkk
  have HR2 : Hid (putH (HS.l ⟨hp, slv, L⟩) ⟨k, ex, n, a, l, s⟩ i ⟨k, ex', n', a', l', s'⟩ = _) := Hid.mk' (HR.out.trans (if_neg (by simp [hk10])))
  clear HR
  by_cases hi : ¬ (0 ≤ i ∧ 0 ≤ m ∧ i ≤ z ∧ m ≤ z - i)
  · have HD := Hid.mk' (show decide (0 ≤ i ∧ 0 ≤ m ∧ i ≤ z ∧ m ≤ z - i) = false by simpa using hi)
    clear KL
    go_wp2_with fail
    refine (inside2 i m z _ (by omega) (by omega)).mono ?_
    rintro e w3 ⟨rfl, rfl⟩
    rw [HD.out]
    go_wp2
    go_ret
    rw [HR2.out, if_pos hi]
    exact ⟨rfl, Next.same H (XW2.alloc _)⟩
  have HR3 : Hid (putH (HS.l ⟨hp, slv, L⟩) ⟨k, ex, n, a, l, s⟩ i ⟨k, ex', n', a', l', s'⟩ = _) := Hid.mk' (HR2.out.trans (if_neg hi))
  clear HR2
  simp only [Decidable.not_not] at hi
  have HD := Hid.mk' (show decide (0 ≤ i ∧ 0 ≤ m ∧ i ≤ z ∧ m ≤ z - i) = true by simpa using hi)
  obtain ⟨i0, m0, i1, m1⟩ := hi
  by_cases hlk : x.c.locked = true
  · go_wp2_with fail
    refine (inside2 i m z _ (by omega) (by omega)).mono ?_
    rintro e w3 ⟨rfl, rfl⟩
    rw [HD.out]
    go_wp2_with fail
    refine (KL _ ((H2.cell x hx).chg ((Chg.refl NoB w2).alloc _) (fun _ _ e => e))).mono ?_
    rintro e w3 ⟨rfl, hb3⟩
    rw [hlk]
    go_wp2
    go_ret
    rw [HR3.out, if_pos hlk]
    exact ⟨rfl, Next.same H ((XW2.alloc _).pure hb3)⟩
  have hlf : x.c.locked = false := by simpa using hlk
  have HR4 : Hid (putH (HS.l ⟨hp, slv, L⟩) ⟨k, ex, n, a, l, s⟩ i ⟨k, ex', n', a', l', s'⟩ = _) := Hid.mk' (HR3.out.trans (if_neg hlk))
  clear HR3 hlk
  have hA : IntKind.i64.wrap (p + i) = p + i := IntWalk.i64_in _ (by omega)
  have hB : IntKind.i64.wrap (p + i + m) = p + i + m := IntWalk.i64_in _ (by omega)
  have hC : IntKind.i64.wrap (r + m) = r + m := IntWalk.i64_in _ (by omega)
  have hkind : x.c.kind = y.c.kind := HK.out.trans HK'.out.symm
  have XW3 : ∃ w3, w3 = w2.alloc (.cells #[.pointer u', .pointer v'] 87) := ⟨_, rfl⟩
  have hBd := blk_new w2 (.cells #[.pointer u', .pointer v'] 87)
  by_cases ht : x.c.text = true
  · have ht' : y.c.text = true := by
      rcases hy : y.c.text with _ | _
      · simp only [C.kind, ht, hy, if_true, if_false, Bool.false_eq_true] at hkind
        split at hkind <;> omega
      · rfl
    obtain ⟨rfl, rfl⟩ : u = none ∧ v = some ⟨x.p, 0, none⟩ := by
      have := HU.out; simp only [PC.ptrs, ht, if_true, List.cons.injEq, Value.pointer.injEq] at this; exact ⟨this.1.symm, this.2.1.symm⟩
    obtain ⟨rfl, rfl⟩ : u' = none ∧ v' = some ⟨y.p, 0, none⟩ := by
      have := HV.out; simp only [PC.ptrs, ht', if_true, List.cons.injEq, Value.pointer.injEq] at this; exact ⟨this.1.symm, this.2.1.symm⟩
    go_wp2_with fail
    refine (inside2 i m z _ (by omega) (by omega)).mono ?_
    rintro e w3 ⟨rfl, rfl⟩
    rw [HD.out]
    go_wp2_with fail
    refine (KL _ ((H2.cell x hx).chg ((Chg.refl NoB w2).alloc _) (fun _ _ e => e))).mono ?_
    rintro e w3 ⟨rfl, hb3⟩
    rw [hlf]
    clear KL
    have hBc3 := hb3.blk (blk_alloc hBc _) id
    have hBd3 := hb3.blk hBd id
    have H3 := (H2.pure ((Chg.refl NoB w2).alloc _)).pure hb3
    have XW4 : Chg NoB w w3 := (XW2.alloc _).pure hb3
    have okx := H3.cell x hx
    have oky := H3.cell y hx'
    have hdx := okx.head.1 ht
    have hdy := oky.head.1 ht'
    have sx : x.c.size = x.c.bytes.length := by simp [C.size, ht]
    have sy : y.c.size = y.c.bytes.length := by simp [C.size, ht']
    obtain ⟨A, c, B, c', f1, f2, f3⟩ := copy_rows 5 50 1 Try.elemBytes Try.underBytes sizeOf_byte (okx.textRow ht) (oky.textRow ht') (p + i) r m (by omega) (by omega) (by omega) (by omega) (by omega) (vu8_one _)
    clear hb3 hBo hBq hBc hBd H2 XW2 XW3 okx oky
    have Rc3 := Chg.cells (S := NoB) hBc3 id
    have lc3 := blk_lt hBc3
    have Rd3 := Chg.cells (S := NoB) hBd3 id
    have ld3 := blk_lt hBd3
    have Rx3 := Chg.cells (S := NoB) hdx id
    have lx3 := blk_lt hdx
    have Ry3 := Chg.cells (S := NoB) hdy id
    have ly3 := blk_lt hdy
    have X := Chg.refl NoB w3
    go_wp2_with fail
    go_still_tail 24, (by kernel_rfl)
    obtain ⟨W', hr, Y, RW⟩ := f3 3 _ X.drew
    refine wpList_copy_known _ rfl (.tmp 76) (.tmp 86) _ _ rfl _ _ rfl rfl hr ?_
    go_wp2
    go_ret
    rw [HR4.out, if_pos ht]
    have HN := Next.bytes H XW4.drew hn (by rw [← HX.out]; exact ht) (by rw [← HX.out]; exact Y) (splice x.c.bytes (p + i).toNat ((y.c.bytes.drop r.toNat).take m.toNat))
      (by rw [← HX.out, length_splice _ _ _ (by simp; omega)]) (by rw [← HX.out, splice_map, List.map_take, List.map_drop]; simpa using RW)
    rw [← HX.out] at HN
    exact ⟨rfl, HN⟩
  · have htf : x.c.text = false := by simpa using ht
    have htf' : y.c.text = false := by
      rcases hy : y.c.text with _ | _
      · rfl
      · simp only [C.kind, htf, hy, if_true, if_false, Bool.false_eq_true] at hkind
        split at hkind <;> omega
    obtain ⟨rfl, rfl⟩ : u = some ⟨x.p, 0, none⟩ ∧ v = none := by
      have := HU.out; simp only [PC.ptrs, htf, if_false, Bool.false_eq_true, List.cons.injEq, Value.pointer.injEq] at this; exact ⟨this.1.symm, this.2.1.symm⟩
    obtain ⟨rfl, rfl⟩ : u' = some ⟨y.p, 0, none⟩ ∧ v' = none := by
      have := HV.out; simp only [PC.ptrs, htf', if_false, Bool.false_eq_true, List.cons.injEq, Value.pointer.injEq] at this; exact ⟨this.1.symm, this.2.1.symm⟩
    go_wp2_with fail
    refine (inside2 i m z _ (by omega) (by omega)).mono ?_
    rintro e w3 ⟨rfl, rfl⟩
    rw [HD.out]
    go_wp2_with fail
    refine (KL _ ((H2.cell x hx).chg ((Chg.refl NoB w2).alloc _) (fun _ _ e => e))).mono ?_
    rintro e w3 ⟨rfl, hb3⟩
    rw [hlf]
    clear KL
    have hBc3 := hb3.blk (blk_alloc hBc _) id
    have hBd3 := hb3.blk hBd id
    have H3 := (H2.pure ((Chg.refl NoB w2).alloc _)).pure hb3
    have XW4 : Chg NoB w w3 := (XW2.alloc _).pure hb3
    have okx := H3.cell x hx
    have oky := H3.cell y hx'
    have hdx := okx.head.2 htf
    have hdy := oky.head.2 htf'
    have sx : x.c.size = x.c.items.length := by simp [C.size, htf]
    have sy : y.c.size = y.c.items.length := by simp [C.size, htf']
    obtain ⟨A, c, B, c', f1, f2, f3⟩ := copy_rows 29 27 6 Try.elemObjs Try.underObjs sizeOf_obj (okx.itemRow htf) (oky.itemRow htf') (p + i) r m (by omega) (by omega) (by omega) (by omega) (by omega) (flat_one _)
    clear hb3 hBo hBq hBc hBd H2 XW2 XW3 okx oky
    have Rc3 := Chg.cells (S := NoB) hBc3 id
    have lc3 := blk_lt hBc3
    have Rd3 := Chg.cells (S := NoB) hBd3 id
    have ld3 := blk_lt hBd3
    have Rx3 := Chg.cells (S := NoB) hdx id
    have lx3 := blk_lt hdx
    have Ry3 := Chg.cells (S := NoB) hdy id
    have ly3 := blk_lt hdy
    have X := Chg.refl NoB w3
    go_wp2_with fail
    go_still_tail 24, (by kernel_rfl)
    obtain ⟨W', hr, Y, RW⟩ := f3 3 _ X.drew
    refine wpList_copy_known _ rfl (.tmp 101) (.tmp 111) _ _ rfl _ _ rfl rfl hr ?_
    go_wp2
    go_ret
    rw [HR4.out, if_neg ht]
    have HN := Next.items H XW4.drew hn (by rw [← HX.out]; exact htf) (by rw [← HX.out]; exact Y) (splice x.c.items (p + i).toNat ((y.c.items.drop r.toNat).take m.toNat))
      (by rw [← HX.out, length_splice _ _ _ (by simp; omega)]) (by rw [← HX.out, splice_flat, flat_drop_take]; exact RW)
    rw [← HX.out] at HN
    exact ⟨rfl, HN⟩
end Go.Proofs.Ytenlpkkeljhdeaa
