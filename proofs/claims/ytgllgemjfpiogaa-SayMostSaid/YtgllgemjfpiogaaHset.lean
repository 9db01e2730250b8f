/- Walk: (*Heap).Set. -/
import Derived.Test.YtgllgemjfpiogaaHg
import Derived.Test.YtgllgemjfpiogaaHup
namespace Go.Proofs.Ytgllgemjfpiogaa
open Go.RowKit

theorem Next.drew {w w' : World} {h : HS} {L : List C} (n : Next w h w' L) : Next w h w'.drew L := by
  obtain ⟨h', h1, h2, h3, h4, h5⟩ := n
  exact ⟨h', h1, h2, h3.pure (Chg.refl _ _).drew, h4.drew, h5⟩
theorem Next.pure {w w' w'' : World} {h : HS} {L : List C} (n : Next w h w' L) (X : Chg NoB w' w'') : Next w h w'' L := by
  obtain ⟨h', h1, h2, h3, h4, h5⟩ := n
  exact ⟨h', h1, h2, h3.pure X, h4.pure X, h5⟩
theorem free_at {w : World} {g : Nat} {cur : Array Value} {T : TypeId} {fz : Nat × Nat} (h : w.heap[g]? = some (.cells cur T fz)) (hf : fz = (0, 0) ∨ cur.size ≤ fz.1) (m : Nat) (hm : m < cur.size) :
    ∀ W, Chg NoB w W → W.frozen? ⟨g, m, none⟩ = false := fun W hc => by
  have := hc.blk h id
  obtain ⟨lo, hi⟩ := fz
  simp only [World.frozen?, this]
  rcases hf with e | e
  · simp at e; obtain ⟨rfl, rfl⟩ := e; simp
  · simp only at e; simp; omega

set_option maxHeartbeats 2000000 in
theorem set_any (h : HS) (o : O) (i : Int) (x : O) (w : World) (H : HeapRep w h) :
   Calls Try.prog 22 #[ptr h.hp, o.val, .int .i64 i, x.val] w fun e w' => e = .returned (.int .i64 (setH h.l o i x).2) ∧ Next w h w' (setH h.l o i x).1 := by
  obtain ⟨hp, slv, L⟩ := h
  obtain ⟨k, ex, n, a, l, s⟩ := o
  obtain ⟨k', ex', n', a', l', s'⟩ := x
  by_cases hE : findE (HS.l ⟨hp, slv, L⟩) ⟨k, ex, n, a, l, s⟩ ≠ 0
  · have hs : setH (HS.l ⟨hp, slv, L⟩) ⟨k, ex, n, a, l, s⟩ i ⟨k', ex', n', a', l', s'⟩ = (HS.l ⟨hp, slv, L⟩, findE (HS.l ⟨hp, slv, L⟩) ⟨k, ex, n, a, l, s⟩) := by simp [setH, hE]
    rw [hs]
    have hb : (findE (HS.l ⟨hp, slv, L⟩) ⟨k, ex, n, a, l, s⟩ != 0) = true := by simpa using hE
    have FB := fun w' (H' : HeapRep w' ⟨hp, slv, L⟩) => find_bad ⟨hp, slv, L⟩ ⟨k, ex, n, a, l, s⟩ w' H' hE
    generalize findE (HS.l ⟨hp, slv, L⟩) ⟨k, ex, n, a, l, s⟩ = fe at *
    go_enter Try.func22, Try.ntmps22
    go_wp2_with fail
    refine (FB _ (H.pure (((Chg.refl NoB w).alloc _).alloc _))).mono ?_
    rintro e w1 ⟨rfl, hb1⟩
    have hB0 := hb1.blk (blk_alloc (blk_new w _) _) id
    have hB1 := hb1.blk (blk_new1 w _ _) id
    have H1 := (H.pure (((Chg.refl NoB w).alloc _).alloc _)).pure hb1
    have XW := (((Chg.refl NoB w).alloc _).alloc _).pure hb1
    clear hb1
    go_wp2
    go_ret
    refine ⟨rfl, Next.same H ?_⟩
    (repeat' (first | with_reducible assumption | with_reducible refine Chg.alloc ?_ _ | with_reducible refine Chg.drew ?_ | with_reducible refine Chg.drewN ?_ _ | with_reducible refine Chg.setCell ?_ (Or.inr ?_) _ | exact Nat.le_refl _ | exact Nat.le_add_right _ _ | (simp; done) | (simp; omega)))
  simp only [ne_eq, Decidable.not_not] at hE
  obtain ⟨hn, hok, hx, hc, hk, hat, hle, hsz, -⟩ := findE_good H hE
  have hsm := cell_small H hx
  have FG := fun w' (H' : HeapRep w' ⟨hp, slv, L⟩) => find_good ⟨hp, slv, L⟩ ⟨k, ex, n, a, l, s⟩ w' H' hE hn
  simp only at hok hx hle hsz hsm FG hn
  obtain ⟨x, hxe⟩ : ∃ x, x = L[n.toNat] := ⟨_, rfl⟩
  obtain ⟨p, hpe⟩ : ∃ p, p = atOf ⟨k, ex, n, a, l, s⟩ := ⟨_, rfl⟩
  obtain ⟨z, hze⟩ : ∃ z, z = lenOf x.c ⟨k, ex, n, a, l, s⟩ := ⟨_, rfl⟩
  have hs : setH (HS.l ⟨hp, slv, L⟩) ⟨k, ex, n, a, l, s⟩ i ⟨k', ex', n', a', l', s'⟩ = (if i < 0 ∨ z ≤ i then (L.map PC.c, 12)
      else if x.c.locked then (L.map PC.c, 1)
      else if x.c.text then
        if k' ≠ 3 then (L.map PC.c, 6)
        else if n' < 0 ∨ 255 < n' then (L.map PC.c, 2)
        else ((L.map PC.c).set n.toNat { x.c with bytes := x.c.bytes.set (p + i).toNat (UInt8.ofNat n'.toNat) }, 0)
      else if mayH (L.map PC.c) ⟨k', ex', n', a', l', s'⟩ = false then (L.map PC.c, 1)
      else ((L.map PC.c).set n.toNat { x.c with items := x.c.items.set (p + i).toNat ⟨k', ex', n', a', l', s'⟩ }, 0)) := by
    subst hxe hze hpe
    simp only at hc; simp [setH, hE, hc]
  rw [hs]
  clear hs hE hc hk
  rw [← hxe] at hok hx hle hsz hsm FG
  rw [← hpe] at hat hsz FG
  rw [← hze] at hle hsz FG
  clear hpe hze
  have HX : Hid (x = L[n.toNat]) := hxe
  clear hxe
  by_cases hi : i < 0 ∨ z ≤ i
  · rw [if_pos hi]
    obtain ⟨u, v, huv⟩ := x.ptrs_eq
    have hval : x.val = .agg #[.pointer u, .pointer v] := by unfold PC.val; rw [huv]
    rw [hval] at FG
    clear hval huv
    by_cases hi1 : i < 0
    all_goals
      (try have hi2 : z ≤ i := by omega)
      go_enter Try.func22, Try.ntmps22
      go_wp2_with fail
      refine (FG _ (H.pure (((Chg.refl NoB w).alloc _).alloc _))).mono ?_
      rintro e w1 ⟨rfl, hb1⟩
      have hB0 := hb1.blk (blk_alloc (blk_new w _) _) id
      have hB1 := hb1.blk (blk_new1 w _ _) id
      have H1 := (H.pure (((Chg.refl NoB w).alloc _).alloc _)).pure hb1
      have XW := (((Chg.refl NoB w).alloc _).alloc _).pure hb1
      clear hb1
      clear FG
      go_wp2
      go_ret
      refine ⟨rfl, Next.same H ?_⟩
      (repeat' (first | with_reducible assumption | with_reducible refine Chg.alloc ?_ _ | with_reducible refine Chg.drew ?_ | with_reducible refine Chg.drewN ?_ _ | with_reducible refine Chg.setCell ?_ (Or.inr ?_) _ | exact Nat.le_refl _ | exact Nat.le_add_right _ _ | (simp; done) | (simp; omega)))
  rw [if_neg hi]
  have hi0 : 0 ≤ i := by omega
  have hi1 : i < z := by omega
  have hA : IntKind.i64.wrap (p + i) = p + i := IntWalk.i64_in _ (by omega)
  have hj : (p + i).toNat < x.c.size := by omega
  have hj0 : 0 ≤ p + i := by omega
  have KL := fun w (h : x.ok w) => locked_any x w h
  by_cases ht : x.c.text = true
  · have hval : x.val = .agg #[.pointer none, ptr x.p] := by simp [PC.val, PC.ptrs, ht]
    rw [hval] at FG KL
    clear hval
    rw [if_pos ht]
    have hj1 : (p + i).toNat < x.c.bytes.length := by simpa [C.size, ht] using hj
    have hj2 : p + i < (x.c.bytes.length : Int) := by omega
    by_cases hlk : x.c.locked = true
    · rw [if_pos hlk]
      go_enter Try.func22, Try.ntmps22
      go_wp2_with fail
      refine (FG _ (H.pure (((Chg.refl NoB w).alloc _).alloc _))).mono ?_
      rintro e w1 ⟨rfl, hb1⟩
      have hB0 := hb1.blk (blk_alloc (blk_new w _) _) id
      have hB1 := hb1.blk (blk_new1 w _ _) id
      have H1 := (H.pure (((Chg.refl NoB w).alloc _).alloc _)).pure hb1
      have XW := (((Chg.refl NoB w).alloc _).alloc _).pure hb1
      clear hb1
      go_wp2_with fail
      refine (KL _ ((H1.cell x hx).chg ((Chg.refl NoB w1).alloc _) (fun _ _ e => e))).mono ?_
      rintro e w2 ⟨rfl, hb2⟩
      rw [hlk]
      clear FG KL
      go_wp2
      go_ret
      refine ⟨rfl, Next.same H ?_⟩
      refine Chg.pure ?_ hb2
      (repeat' (first | with_reducible assumption | with_reducible refine Chg.alloc ?_ _ | with_reducible refine Chg.drew ?_ | with_reducible refine Chg.drewN ?_ _ | with_reducible refine Chg.setCell ?_ (Or.inr ?_) _ | exact Nat.le_refl _ | exact Nat.le_add_right _ _ | (simp; done) | (simp; omega)))
    · have hlf : x.c.locked = false := by simpa using hlk
      rw [if_neg hlk]
      go_enter Try.func22, Try.ntmps22
      go_wp2_with fail
      refine (FG _ (H.pure (((Chg.refl NoB w).alloc _).alloc _))).mono ?_
      rintro e w1 ⟨rfl, hb1⟩
      have hB0 := hb1.blk (blk_alloc (blk_new w _) _) id
      have hB1 := hb1.blk (blk_new1 w _ _) id
      have H1 := (H.pure (((Chg.refl NoB w).alloc _).alloc _)).pure hb1
      have XW := (((Chg.refl NoB w).alloc _).alloc _).pure hb1
      clear hb1
      go_wp2_with fail
      refine (KL _ ((H1.cell x hx).chg ((Chg.refl NoB w1).alloc _) (fun _ _ e => e))).mono ?_
      rintro e w2 ⟨rfl, hb2⟩
      rw [hlf]
      clear FG KL
      have hBc := hb2.blk (blk_new w1 _) id
      have hBx := hb2.blk (blk_alloc hB1 _) id
      have H2 := (H1.pure ((Chg.refl NoB w1).alloc _)).pure hb2
      have XW2 : Chg NoB w w2 := Chg.pure (by (repeat' (first | with_reducible assumption | with_reducible refine Chg.alloc ?_ _ | with_reducible refine Chg.drew ?_ | with_reducible refine Chg.drewN ?_ _ | with_reducible refine Chg.setCell ?_ (Or.inr ?_) _ | exact Nat.le_refl _ | exact Nat.le_add_right _ _ | (simp; done) | (simp; omega)))) hb2
      have hok2 := H2.cell x hx
      have hhd := hok2.head.1 ht
      obtain ⟨g, cap, cur, fz, hsl, hcur, hfz, hcs, -, hby⟩ := hok2.byte ht hj1
      have Z := free_at hcur hfz (p + i).toNat (by omega)
      rw [hsl] at hhd
      clear hb2 hB0 hB1 XW H1
      have Rc := Chg.cells (S := NoB) hBc id
      have lc := blk_lt hBc
      have Rx := Chg.cells (S := NoB) hBx id
      have lx := blk_lt hBx
      have Rh := Chg.cells (S := NoB) hhd id
      have lh := blk_lt hhd
      have Rg := Chg.cells (S := NoB) hcur id
      have lg := blk_lt hcur
      have X := Chg.refl NoB w2
      by_cases hk3 : k' = 3
      · subst hk3
        by_cases hr : n' < 0 ∨ 255 < n'
        · by_cases hr1 : n' < 0
          all_goals
            (try have hr2 : 255 < n' := by omega)
            go_wp2
            go_ret
            simp only
            exact ⟨rfl, Next.same H XW2⟩
        · have hr' := hr
          have hr0 : 0 ≤ n' := by omega
          have hr1 : n' ≤ 255 := by omega
          have hcv : IntKind.u8.wrap n' = n' := by simp [IntKind.wrap, IntKind.bits, IntKind.signed]; omega
          go_wp2_with fail
          go_region
          go_wp2
          go_ret
          simp only
          refine ⟨rfl, ?_⟩
          have HN := (Next.byte H XW2 hn (by rw [← HX.out]; exact ht) (by rw [← HX.out]; exact hsl) (by rw [← HX.out]; exact hj1) (UInt8.ofNat n'.toNat)).drew
          rw [← HX.out] at HN
          have e : vu8 (UInt8.ofNat n'.toNat) = .int .u8 n' := by
            simp [vu8, UInt8.toNat_ofNat']; omega
          rw [e] at HN
          simp only [ht, hlf] at HN
          exact HN
      · have hk4 : (k' == 3) = false := by simpa using hk3
        have hk5 : (k' != 3) = true := by simpa using hk3
        go_wp2
        go_ret
        simp only
        exact ⟨rfl, Next.same H XW2⟩
  · have htf : x.c.text = false := by simpa using ht
    have hval : x.val = .agg #[ptr x.p, .pointer none] := by simp [PC.val, PC.ptrs, htf]
    rw [hval] at FG KL
    clear hval
    rw [if_neg ht]
    have hj1 : (p + i).toNat < x.c.items.length := by simpa [C.size, htf] using hj
    have hj2 : p + i < (x.c.items.length : Int) := by omega
    by_cases hlk : x.c.locked = true
    · rw [if_pos hlk]
      go_enter Try.func22, Try.ntmps22
      go_wp2_with fail
      refine (FG _ (H.pure (((Chg.refl NoB w).alloc _).alloc _))).mono ?_
      rintro e w1 ⟨rfl, hb1⟩
      have hB0 := hb1.blk (blk_alloc (blk_new w _) _) id
      have hB1 := hb1.blk (blk_new1 w _ _) id
      have H1 := (H.pure (((Chg.refl NoB w).alloc _).alloc _)).pure hb1
      have XW := (((Chg.refl NoB w).alloc _).alloc _).pure hb1
      clear hb1
      go_wp2_with fail
      refine (KL _ ((H1.cell x hx).chg ((Chg.refl NoB w1).alloc _) (fun _ _ e => e))).mono ?_
      rintro e w2 ⟨rfl, hb2⟩
      rw [hlk]
      clear FG KL
      go_wp2
      go_ret
      refine ⟨rfl, Next.same H ?_⟩
      refine Chg.pure ?_ hb2
      (repeat' (first | with_reducible assumption | with_reducible refine Chg.alloc ?_ _ | with_reducible refine Chg.drew ?_ | with_reducible refine Chg.drewN ?_ _ | with_reducible refine Chg.setCell ?_ (Or.inr ?_) _ | exact Nat.le_refl _ | exact Nat.le_add_right _ _ | (simp; done) | (simp; omega)))
    · have hlf : x.c.locked = false := by simpa using hlk
      rw [if_neg hlk]
      go_enter Try.func22, Try.ntmps22
      go_wp2_with fail
      refine (FG _ (H.pure (((Chg.refl NoB w).alloc _).alloc _))).mono ?_
      rintro e w1 ⟨rfl, hb1⟩
      have hB0 := hb1.blk (blk_alloc (blk_new w _) _) id
      have hB1 := hb1.blk (blk_new1 w _ _) id
      have H1 := (H.pure (((Chg.refl NoB w).alloc _).alloc _)).pure hb1
      have XW := (((Chg.refl NoB w).alloc _).alloc _).pure hb1
      clear hb1
      go_wp2_with fail
      refine (KL _ ((H1.cell x hx).chg ((Chg.refl NoB w1).alloc _) (fun _ _ e => e))).mono ?_
      rintro e w2 ⟨rfl, hb2⟩
      rw [hlf]
      clear FG KL
      have hBc := hb2.blk (blk_new w1 _) id
      have hBx := hb2.blk (blk_alloc hB1 _) id
      have H2 := (H1.pure ((Chg.refl NoB w1).alloc _)).pure hb2
      have XW2 : Chg NoB w w2 := Chg.pure (by (repeat' (first | with_reducible assumption | with_reducible refine Chg.alloc ?_ _ | with_reducible refine Chg.drew ?_ | with_reducible refine Chg.drewN ?_ _ | with_reducible refine Chg.setCell ?_ (Or.inr ?_) _ | exact Nat.le_refl _ | exact Nat.le_add_right _ _ | (simp; done) | (simp; omega)))) hb2
      clear hb2 hB0 hB1 XW H1
      have Rc2 := cells_of hBc
      have Rx2 := cells_of hBx
      go_wp2_with fail
      refine (hmay_any ⟨hp, slv, L⟩ ⟨k', ex', n', a', l', s'⟩ _ H2).mono ?_
      rintro e w3 ⟨rfl, hb3⟩
      clear Rc2 Rx2
      by_cases hmx : mayH (L.map PC.c) ⟨k', ex', n', a', l', s'⟩ = false
      · have hmx' : mayH (HS.l ⟨hp, slv, L⟩) ⟨k', ex', n', a', l', s'⟩ = false := hmx
        go_wp2
        go_ret
        simp only
        exact ⟨rfl, Next.same H (XW2.pure hb3)⟩
      · have hmx' : mayH (HS.l ⟨hp, slv, L⟩) ⟨k', ex', n', a', l', s'⟩ = true := by simpa using hmx
        have hBc3 := hb3.blk hBc id
        have hBx3 := hb3.blk hBx id
        have H3 := H2.pure hb3
        have XW3 := XW2.pure hb3
        have hok3 := H3.cell x hx
        have hhd := hok3.head.2 htf
        obtain ⟨g, cap, cur, fz, hsl, hcur, hfz, hcs, -, y0, y1, y2, y3, y4, y5⟩ := hok3.item htf hj1
        have Z0 := free_at hcur hfz ((p + i).toNat * 6) (by omega)
        have Z1 := free_at hcur hfz ((p + i).toNat * 6 + 1) (by omega)
        have Z2 := free_at hcur hfz ((p + i).toNat * 6 + 2) (by omega)
        have Z3 := free_at hcur hfz ((p + i).toNat * 6 + 3) (by omega)
        have Z4 := free_at hcur hfz ((p + i).toNat * 6 + 4) (by omega)
        have Z5 := free_at hcur hfz ((p + i).toNat * 6 + 5) (by omega)
        rw [hsl] at hhd
        clear hb3 hBc hBx XW2 H2
        have Rc := Chg.cells (S := NoB) hBc3 id
        have lc := blk_lt hBc3
        have Rx := Chg.cells (S := NoB) hBx3 id
        have lx := blk_lt hBx3
        have Rh := Chg.cells (S := NoB) hhd id
        have lh := blk_lt hhd
        have Rg := Chg.cells (S := NoB) hcur id
        have lg := blk_lt hcur
        have X := Chg.refl NoB w3
        go_wp2_with fail
        go_region
        go_wp2
        go_ret
        simp only
        refine ⟨rfl, ?_⟩
        have HN := (Next.item H XW3 hn (by rw [← HX.out]; exact htf) (by rw [← HX.out]; exact hsl) (by rw [← HX.out]; exact hj1) ⟨k', ex', n', a', l', s'⟩).drew
        rw [← HX.out] at HN
        simp only [htf, hlf] at HN
        exact HN
end Go.Proofs.Ytgllgemjfpiogaa
