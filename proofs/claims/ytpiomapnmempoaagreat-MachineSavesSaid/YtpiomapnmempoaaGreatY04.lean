/- Parts of the proof: Hset, Hadd. -/
import Derived.Maps.AppendAt
import Derived.Deep.AppendLies
import Derived.Deep.RegionLaw
import Derived.Deep.DeepCutAuto
import Derived.Test.YtpiomapnmempoaaGreatY02
import Derived.Test.YtpiomapnmempoaaGreatY03
namespace Go.Proofs.YtpiomapnmempoaaGreat
open Go.RowKit
variable {w w' : World}
theorem Next.drew {h : HS} {L : List C} (n : Next w h w' L) : Next w h w'.drew L := by
 obtain ⟨h', h1, h2, h3, h4, h5⟩ := n; exact ⟨h', h1, h2, h3.pure (Chg.refl _ _).drew, h4.drew, h5⟩
theorem Next.pure {w'' : World} {h : HS} {L : List C} (n : Next w h w' L) (X : Chg NoB w' w'') : Next w h w'' L := by
 obtain ⟨h', h1, h2, h3, h4, h5⟩ := n; exact ⟨h', h1, h2, h3.pure X, h4.pure X, h5⟩
theorem free_at {g : Nat} {cur : Array Value} {T : TypeId} {fz : Nat × Nat} (h : w.heap[g]? = some (.cells cur T fz)) (hf : fz = (0, 0) ∨ cur.size ≤ fz.1) (m : Nat) (hm : m < cur.size) :
 ∀ W, Chg NoB w W → W.frozen? ⟨g, m, none⟩ = false := fun W hc => by
 have := hc.blk h id; obtain ⟨lo, hi⟩ := fz; simp only [World.frozen?, this]
 rcases hf with e | e
 · simp at e; obtain ⟨rfl, rfl⟩ := e; simp
 · simp only at e; simp; omega
set_option maxHeartbeats 2000000 in
theorem set_any (h : HS) (o : O) (i : Int) (x : O) (w : World) (H : HeapRep w h) :
 Calls Tryz.prog 61 #[ptr h.hp, o.val, .int .i64 i, x.val] w fun e w' => e = .returned (.int .i64 (setH h.l o i x).2) ∧ Next w h w' (setH h.l o i x).1 := by
 obtain ⟨hp, slv, L⟩ := h; obtain ⟨k, ex, n, a, l, s⟩ := o; obtain ⟨k', ex', n', a', l', s'⟩ := x
 by_cases hE : findE (HS.l ⟨hp, slv, L⟩) ⟨k, ex, n, a, l, s⟩ ≠ 0
 · have hs : setH (HS.l ⟨hp, slv, L⟩) ⟨k, ex, n, a, l, s⟩ i ⟨k', ex', n', a', l', s'⟩ = (HS.l ⟨hp, slv, L⟩, findE (HS.l ⟨hp, slv, L⟩) ⟨k, ex, n, a, l, s⟩) := by simp [setH, hE]
   rw [hs]
   have hb : (findE (HS.l ⟨hp, slv, L⟩) ⟨k, ex, n, a, l, s⟩ != 0) = true := by simpa using hE
   have FB := fun w' (H' : HeapRep w' ⟨hp, slv, L⟩) => find_bad ⟨hp, slv, L⟩ ⟨k, ex, n, a, l, s⟩ w' H' hE; generalize findE (HS.l ⟨hp, slv, L⟩) ⟨k, ex, n, a, l, s⟩ = fe at *; go_enter Tryz.func61, Tryz.ntmps61
   go_wp2_with fail
   refine (FB _ (H.pure (((Chg.refl NoB w).alloc _).alloc _))).mono ?_; rintro e w1 ⟨rfl, hb1⟩; have hB0 := hb1.blk (blk_alloc (blk_new w _) _) id; have hB1 := hb1.blk (blk_new1 w _ _) id; have H1 := (H.pure (((Chg.refl NoB w).alloc _).alloc _)).pure hb1; have XW := (((Chg.refl NoB w).alloc _).alloc _).pure hb1; clear hb1; go_wp2
   go_ret; refine ⟨rfl, Next.same H ?_⟩
   (repeat' (first | with_reducible assumption | with_reducible refine Chg.alloc ?_ _ | with_reducible refine Chg.drew ?_ | with_reducible refine Chg.drewN ?_ _ | with_reducible refine Chg.setCell ?_ (Or.inr ?_) _ | exact Nat.le_refl _ | exact Nat.le_add_right _ _ | (simp; done) | (simp; omega)))
 simp only [ne_eq, Decidable.not_not] at hE; obtain ⟨hn, hok, hx, hc, hk, hat, hle, hsz, -⟩ := findE_good H hE; have hsm := cell_small H hx; have FG := fun w' (H' : HeapRep w' ⟨hp, slv, L⟩) => find_good ⟨hp, slv, L⟩ ⟨k, ex, n, a, l, s⟩ w' H' hE hn; simp only at hok hx hle hsz hsm FG hn
 obtain ⟨x, hxe⟩ : ∃ x, x = L[n.toNat] := ⟨_, rfl⟩
 obtain ⟨p, hpe⟩ : ∃ p, p = atOf ⟨k, ex, n, a, l, s⟩ := ⟨_, rfl⟩
 obtain ⟨z, hze⟩ : ∃ z, z = lenOf x.c ⟨k, ex, n, a, l, s⟩ := ⟨_, rfl⟩
 have hs : setH (HS.l ⟨hp, slv, L⟩) ⟨k, ex, n, a, l, s⟩ i ⟨k', ex', n', a', l', s'⟩ = (if i < 0 ∨ z ≤ i then (L.map PC.c, 12)
  else if x.c.locked then (L.map PC.c, 1)
  else if x.c.text then
   if k' ≠ 3 then (L.map PC.c, 6)
   else if n' < 0 ∨ 255 < n' then (L.map PC.c, 2)
   else ((L.map PC.c).set n.toNat { x.c with bytes := x.c.bytes.set (p + i).toNat (UInt8.ofNat n'.toNat) }, 0)
  else if mayH (L.map PC.c) ⟨k', ex', n', a', l', s'⟩ = false then (L.map PC.c, 1)
  else ((L.map PC.c).set n.toNat { x.c with items := x.c.items.set (p + i).toNat ⟨k', ex', n', a', l', s'⟩ }, 0)) := by
  subst hxe hze hpe; simp only at hc; simp [setH, hE, hc]
 rw [hs]; clear hs hE hc hk; rw [← hxe] at hok hx hle hsz hsm FG; rw [← hpe] at hat hsz FG; rw [← hze] at hle hsz FG; clear hpe hze; have HX : Hid (x = L[n.toNat]) := hxe; clear hxe
 by_cases hi : i < 0 ∨ z ≤ i
 · rw [if_pos hi]; obtain ⟨u, v, huv⟩ := x.ptrs_eq
   have hval : x.val = .agg #[.pointer u, .pointer v] := by unfold PC.val; rw [huv]
   rw [hval] at FG; clear hval huv
   by_cases hi1 : i < 0
   all_goals
    (try have hi2 : z ≤ i := by omega)
    go_enter Tryz.func61, Tryz.ntmps61
    go_wp2_with fail
    refine (FG _ (H.pure (((Chg.refl NoB w).alloc _).alloc _))).mono ?_; rintro e w1 ⟨rfl, hb1⟩; have hB0 := hb1.blk (blk_alloc (blk_new w _) _) id; have hB1 := hb1.blk (blk_new1 w _ _) id; have H1 := (H.pure (((Chg.refl NoB w).alloc _).alloc _)).pure hb1; have XW := (((Chg.refl NoB w).alloc _).alloc _).pure hb1; clear hb1; clear FG; go_wp2
    go_ret; refine ⟨rfl, Next.same H ?_⟩
    (repeat' (first | with_reducible assumption | with_reducible refine Chg.alloc ?_ _ | with_reducible refine Chg.drew ?_ | with_reducible refine Chg.drewN ?_ _ | with_reducible refine Chg.setCell ?_ (Or.inr ?_) _ | exact Nat.le_refl _ | exact Nat.le_add_right _ _ | (simp; done) | (simp; omega)))
 rw [if_neg hi]
 have hi0 : 0 ≤ i := by omega
 have hi1 : i < z := by omega
 have hA : IntKind.i64.wrap (p + i) = p + i := IntWalk.i64_in _ (by omega)
 have hj : (p + i).toNat < x.c.size := by omega
 have hj0 : 0 ≤ p + i := by omega
 have KL := fun w (h : x.ok w) => locked_any x w h
 by_cases ht : x.c.text = true
 · have hval : x.val = .agg #[.pointer none, ptr x.p] := by simp [PC.val, PC.ptrs, ht]
   rw [hval] at FG KL; clear hval; rw [if_pos ht]
   have hj1 : (p + i).toNat < x.c.bytes.length := by simpa [C.size, ht] using hj
   have hj2 : p + i < (x.c.bytes.length : Int) := by omega
   by_cases hlk : x.c.locked = true
   · rw [if_pos hlk]; go_enter Tryz.func61, Tryz.ntmps61
     go_wp2_with fail
     refine (FG _ (H.pure (((Chg.refl NoB w).alloc _).alloc _))).mono ?_; rintro e w1 ⟨rfl, hb1⟩; have hB0 := hb1.blk (blk_alloc (blk_new w _) _) id; have hB1 := hb1.blk (blk_new1 w _ _) id; have H1 := (H.pure (((Chg.refl NoB w).alloc _).alloc _)).pure hb1; have XW := (((Chg.refl NoB w).alloc _).alloc _).pure hb1; clear hb1; go_wp2_with fail
     refine (KL _ ((H1.cell x hx).chg ((Chg.refl NoB w1).alloc _) (fun _ _ e => e))).mono ?_; rintro e w2 ⟨rfl, hb2⟩; rw [hlk]; clear FG KL; go_wp2
     go_ret; refine ⟨rfl, Next.same H ?_⟩; refine Chg.pure ?_ hb2
     (repeat' (first | with_reducible assumption | with_reducible refine Chg.alloc ?_ _ | with_reducible refine Chg.drew ?_ | with_reducible refine Chg.drewN ?_ _ | with_reducible refine Chg.setCell ?_ (Or.inr ?_) _ | exact Nat.le_refl _ | exact Nat.le_add_right _ _ | (simp; done) | (simp; omega)))
   · have hlf : x.c.locked = false := by simpa using hlk
     rw [if_neg hlk]; go_enter Tryz.func61, Tryz.ntmps61
     go_wp2_with fail
     refine (FG _ (H.pure (((Chg.refl NoB w).alloc _).alloc _))).mono ?_; rintro e w1 ⟨rfl, hb1⟩; have hB0 := hb1.blk (blk_alloc (blk_new w _) _) id; have hB1 := hb1.blk (blk_new1 w _ _) id; have H1 := (H.pure (((Chg.refl NoB w).alloc _).alloc _)).pure hb1; have XW := (((Chg.refl NoB w).alloc _).alloc _).pure hb1; clear hb1; go_wp2_with fail
     refine (KL _ ((H1.cell x hx).chg ((Chg.refl NoB w1).alloc _) (fun _ _ e => e))).mono ?_; rintro e w2 ⟨rfl, hb2⟩; rw [hlf]; clear FG KL; have hBc := hb2.blk (blk_new w1 _) id; have hBx := hb2.blk (blk_alloc hB1 _) id; have H2 := (H1.pure ((Chg.refl NoB w1).alloc _)).pure hb2; have XW2 : Chg NoB w w2 := Chg.pure (by (repeat' (first | with_reducible assumption | with_reducible refine Chg.alloc ?_ _ | with_reducible refine Chg.drew ?_ | with_reducible refine Chg.drewN ?_ _ | with_reducible refine Chg.setCell ?_ (Or.inr ?_) _ | exact Nat.le_refl _ | exact Nat.le_add_right _ _ | (simp; done) | (simp; omega)))) hb2; have hok2 := H2.cell x hx; have hhd := hok2.head.1 ht; obtain ⟨g, cap, cur, fz, hsl, hcur, hfz, hcs, -, hby⟩ := hok2.byte ht hj1; have Z := free_at hcur hfz (p + i).toNat (by omega); rw [hsl] at hhd; clear hb2 hB0 hB1 XW H1; have Rc := Chg.cells (S := NoB) hBc id; have lc := blk_lt hBc; have Rx := Chg.cells (S := NoB) hBx id; have lx := blk_lt hBx; have Rh := Chg.cells (S := NoB) hhd id; have lh := blk_lt hhd; have Rg := Chg.cells (S := NoB) hcur id; have lg := blk_lt hcur; have X := Chg.refl NoB w2
     by_cases hk3 : k' = 3
     · subst hk3
       by_cases hr : n' < 0 ∨ 255 < n'
       · by_cases hr1 : n' < 0
         all_goals
          (try have hr2 : 255 < n' := by omega)
          go_wp2
          go_ret; simp only; exact ⟨rfl, Next.same H XW2⟩
       · have hr' := hr
         have hr0 : 0 ≤ n' := by omega
         have hr1 : n' ≤ 255 := by omega
         have hcv : IntKind.u8.wrap n' = n' := by simp [IntKind.wrap, IntKind.bits, IntKind.signed]; omega
         go_wp2_with fail
         go_region
         go_wp2
         go_ret; simp only; refine ⟨rfl, ?_⟩; have HN := (Next.byte H XW2 hn (by rw [← HX.out]; exact ht) (by rw [← HX.out]; exact hsl) (by rw [← HX.out]; exact hj1) (UInt8.ofNat n'.toNat)).drew; rw [← HX.out] at HN
         have e : vu8 (UInt8.ofNat n'.toNat) = .int .u8 n' := by
          simp [vu8, UInt8.toNat_ofNat']; omega
         rw [e] at HN; simp only [ht, hlf] at HN; exact HN
     · have hk4 : (k' == 3) = false := by simpa using hk3
       have hk5 : (k' != 3) = true := by simpa using hk3
       go_wp2
       go_ret; simp only; exact ⟨rfl, Next.same H XW2⟩
 · have htf : x.c.text = false := by simpa using ht
   have hval : x.val = .agg #[ptr x.p, .pointer none] := by simp [PC.val, PC.ptrs, htf]
   rw [hval] at FG KL; clear hval; rw [if_neg ht]
   have hj1 : (p + i).toNat < x.c.items.length := by simpa [C.size, htf] using hj
   have hj2 : p + i < (x.c.items.length : Int) := by omega
   by_cases hlk : x.c.locked = true
   · rw [if_pos hlk]; go_enter Tryz.func61, Tryz.ntmps61
     go_wp2_with fail
     refine (FG _ (H.pure (((Chg.refl NoB w).alloc _).alloc _))).mono ?_; rintro e w1 ⟨rfl, hb1⟩; have hB0 := hb1.blk (blk_alloc (blk_new w _) _) id; have hB1 := hb1.blk (blk_new1 w _ _) id; have H1 := (H.pure (((Chg.refl NoB w).alloc _).alloc _)).pure hb1; have XW := (((Chg.refl NoB w).alloc _).alloc _).pure hb1; clear hb1; go_wp2_with fail
     refine (KL _ ((H1.cell x hx).chg ((Chg.refl NoB w1).alloc _) (fun _ _ e => e))).mono ?_; rintro e w2 ⟨rfl, hb2⟩; rw [hlk]; clear FG KL; go_wp2
     go_ret; refine ⟨rfl, Next.same H ?_⟩; refine Chg.pure ?_ hb2
     (repeat' (first | with_reducible assumption | with_reducible refine Chg.alloc ?_ _ | with_reducible refine Chg.drew ?_ | with_reducible refine Chg.drewN ?_ _ | with_reducible refine Chg.setCell ?_ (Or.inr ?_) _ | exact Nat.le_refl _ | exact Nat.le_add_right _ _ | (simp; done) | (simp; omega)))
   · have hlf : x.c.locked = false := by simpa using hlk
     rw [if_neg hlk]; go_enter Tryz.func61, Tryz.ntmps61
     go_wp2_with fail
     refine (FG _ (H.pure (((Chg.refl NoB w).alloc _).alloc _))).mono ?_; rintro e w1 ⟨rfl, hb1⟩; have hB0 := hb1.blk (blk_alloc (blk_new w _) _) id; have hB1 := hb1.blk (blk_new1 w _ _) id; have H1 := (H.pure (((Chg.refl NoB w).alloc _).alloc _)).pure hb1; have XW := (((Chg.refl NoB w).alloc _).alloc _).pure hb1; clear hb1; go_wp2_with fail
     refine (KL _ ((H1.cell x hx).chg ((Chg.refl NoB w1).alloc _) (fun _ _ e => e))).mono ?_; rintro e w2 ⟨rfl, hb2⟩; rw [hlf]; clear FG KL; have hBc := hb2.blk (blk_new w1 _) id; have hBx := hb2.blk (blk_alloc hB1 _) id; have H2 := (H1.pure ((Chg.refl NoB w1).alloc _)).pure hb2; have XW2 : Chg NoB w w2 := Chg.pure (by (repeat' (first | with_reducible assumption | with_reducible refine Chg.alloc ?_ _ | with_reducible refine Chg.drew ?_ | with_reducible refine Chg.drewN ?_ _ | with_reducible refine Chg.setCell ?_ (Or.inr ?_) _ | exact Nat.le_refl _ | exact Nat.le_add_right _ _ | (simp; done) | (simp; omega)))) hb2; clear hb2 hB0 hB1 XW H1; have Rc2 := cells_of hBc; have Rx2 := cells_of hBx; go_wp2_with fail
     refine (hmay_any ⟨hp, slv, L⟩ ⟨k', ex', n', a', l', s'⟩ _ H2).mono ?_; rintro e w3 ⟨rfl, hb3⟩; clear Rc2 Rx2
     by_cases hmx : mayH (L.map PC.c) ⟨k', ex', n', a', l', s'⟩ = false
     · have hmx' : mayH (HS.l ⟨hp, slv, L⟩) ⟨k', ex', n', a', l', s'⟩ = false := hmx; go_wp2
       go_ret; simp only; exact ⟨rfl, Next.same H (XW2.pure hb3)⟩
     · have hmx' : mayH (HS.l ⟨hp, slv, L⟩) ⟨k', ex', n', a', l', s'⟩ = true := by simpa using hmx
       have hBc3 := hb3.blk hBc id; have hBx3 := hb3.blk hBx id; have H3 := H2.pure hb3; have XW3 := XW2.pure hb3; have hok3 := H3.cell x hx; have hhd := hok3.head.2 htf; obtain ⟨g, cap, cur, fz, hsl, hcur, hfz, hcs, -, y0, y1, y2, y3, y4, y5⟩ := hok3.item htf hj1; have Z0 := free_at hcur hfz ((p + i).toNat * 6) (by omega); have Z1 := free_at hcur hfz ((p + i).toNat * 6 + 1) (by omega); have Z2 := free_at hcur hfz ((p + i).toNat * 6 + 2) (by omega); have Z3 := free_at hcur hfz ((p + i).toNat * 6 + 3) (by omega); have Z4 := free_at hcur hfz ((p + i).toNat * 6 + 4) (by omega); have Z5 := free_at hcur hfz ((p + i).toNat * 6 + 5) (by omega); rw [hsl] at hhd; clear hb3 hBc hBx XW2 H2; have Rc := Chg.cells (S := NoB) hBc3 id; have lc := blk_lt hBc3; have Rx := Chg.cells (S := NoB) hBx3 id; have lx := blk_lt hBx3; have Rh := Chg.cells (S := NoB) hhd id; have lh := blk_lt hhd; have Rg := Chg.cells (S := NoB) hcur id; have lg := blk_lt hcur; have X := Chg.refl NoB w3; go_wp2_with fail
       go_region
       go_wp2
       go_ret; simp only; refine ⟨rfl, ?_⟩; have HN := (Next.item H XW3 hn (by rw [← HX.out]; exact htf) (by rw [← HX.out]; exact hsl) (by rw [← HX.out]; exact hj1) ⟨k', ex', n', a', l', s'⟩).drew; rw [← HX.out] at HN; simp only [htf, hlf] at HN; exact HN
theorem Tryz.infoCell : (Tryz.prog.info? 121).map (fun i => (i.zero, i.size, i.bytes)) = some (some (.agg #[.pointer none, .pointer none]), 2, 16) := by kernel_rfl
theorem Tryz.underCells : Tryz.prog.underlying 82 = some (.slice 121) := by kernel_rfl
theorem cells_new (w : World) (cs : List Value) (t : TypeId) : ∀ j u, cs[j]? = some u → (w.alloc (.cells cs.toArray t)).cell? ((⟨w.heap.size, 0, none⟩ : Addr).add j) = some u := by
 intro j u hj
 have : (⟨w.heap.size, 0, none⟩ : Addr).add j = ⟨w.heap.size, j, none⟩ := by
  unfold Addr.add; split <;> simp_all
 rw [this, World.cell?_alloc_new]
 simpa using hj
theorem one2 (u v : Option Addr) : ∀ x ∈ [Value.pointer u, Value.pointer v], x.oneCell' = true := by simp [Value.oneCell']
theorem Hid.mk' {p : Prop} (h : p) : Hid p := h
def addE (L : List C) (c : C) : Int := if 2000 ≤ L.length ∨ 40000 - used L < c.size then 5 else 0
def objOf (L : List C) (c : C) : O := ⟨c.kind, false, L.length, 0, if c.kind = 10 then 0 else c.size, ⟨#[]⟩⟩
theorem HeapRep.grow {hp : Nat} {slv slv' : Value} {L : List PC} {x : PC} {g : Nat} (H : HeapRep w ⟨hp, slv, L⟩) (hx : x.ok w)
 (hc : Chg (fun b => b = hp ∨ b ∈ slv.ownBlock.toList) w w') (h1 : w'.heap[hp]? = some (.cells #[slv', .int .i64 ((used (L.map PC.c) + x.c.size : Nat) : Int)] 84 (0, 0)))
 (h2 : w'.ownsRow 0 121 2 slv' (L.length + 1) (L.flatMap PC.ptrs ++ x.ptrs)) (h3 : slv'.ownBlock = some g) (h4 : slv.ownBlock = some g ∨ w.heap.size ≤ g)
 (hn : x.foot.Nodup) (hd : ∀ b ∈ x.foot, b ∉ HS.foot ⟨hp, slv, L⟩) (hl : L.length < 2000) (hu : used (L.map PC.c) + x.c.size ≤ 40000) :
 HeapRep w' ⟨hp, slv', L ++ [x]⟩ ∧ ∀ b ∈ HS.foot ⟨hp, slv', L ++ [x]⟩, b ∈ HS.foot ⟨hp, slv, L⟩ ∨ b ∈ x.foot ∨ w.heap.size ≤ b := by
 have hlt := H.lt; have hxl := hx.lt; have hap := H.apart; simp only [HS.foot, List.nodup_cons, List.nodup_append, List.mem_append, not_or, List.mem_flatMap, not_exists, not_and] at hap; obtain ⟨⟨a1, a2⟩, a3, a4, a5⟩ := hap; simp only [HS.foot, List.mem_cons, List.mem_append, not_or, List.mem_flatMap, not_exists, not_and] at hd hlt
 have hu' : used ((L ++ [x]).map PC.c) = used (L.map PC.c) + x.c.size := by simp [used]
 have hgL : ∀ y ∈ L, g ∉ y.foot := fun y hy hgy => by
  rcases h4 with h4 | h4
  · exact a5 g (by simp [h4]) g ⟨y, hy, hgy⟩ rfl
  · have := hlt g (.inr (.inr ⟨y, hy, hgy⟩)); omega
 have hgx : g ∉ x.foot := fun hgx => by
  rcases h4 with h4 | h4
  · exact (hd g hgx).2.1 (by simp [h4])
  · have := hxl g hgx; omega
 have hgh : hp ≠ g := fun e => by
  subst e
  rcases h4 with h4 | h4
  · exact a1 (by simp [h4])
  · have := hlt hp (.inl rfl); omega
 refine ⟨⟨by show w'.heap[hp]? = some (.cells #[slv', .int .i64 ((used ((L ++ [x]).map PC.c) : Nat) : Int)] 84 (0, 0)); rw [hu']; exact h1, by simpa using h2, ?_, ?_, by simp only [List.length_append, List.length_singleton]; omega, by simp only [HS.l]; rw [hu']; exact hu⟩, ?_⟩
 · intro y hy
   rcases List.mem_append.1 hy with (hy1 : y ∈ L) | hy
   · refine (H.cell y hy1).chg hc fun b hb e => ?_
     rcases e with rfl | e
     · exact a2 y hy1 hb
     · exact a5 b e b ⟨y, hy1, hb⟩ rfl
   · simp only [List.mem_singleton] at hy; subst hy; exact hx.chg hc fun b hb e => e.elim (fun e => (hd b hb).1 e) (fun e => (hd b hb).2.1 e)
 · simp only [HS.foot, h3, Option.toList, List.flatMap_append, List.flatMap_cons, List.flatMap_nil, List.append_nil, List.nodup_cons, List.cons_append, List.nil_append, List.nodup_append, List.mem_cons, List.mem_append, List.mem_flatMap, not_or, not_exists, not_and]; refine ⟨⟨hgh, fun y hy => a2 y hy, fun h => (hd hp h).1 rfl⟩, ⟨fun y hy => hgL y hy, hgx⟩, a4, hn, ?_⟩; rintro b ⟨y, hy, hb⟩ b' hb' rfl; exact (hd b hb').2.2 y hy hb
 · intro b hb; simp only [HS.foot, h3, Option.toList, List.flatMap_append, List.flatMap_cons, List.flatMap_nil, List.append_nil, List.cons_append, List.nil_append, List.mem_cons, List.mem_append, List.mem_flatMap] at hb ⊢
   rcases hb with rfl | rfl | hb | hb
   · exact .inl (.inl rfl)
   · rcases h4 with h4 | h4
     · exact .inl (.inr (.inl (by simp [h4])))
     · exact .inr (.inr h4)
   · exact .inl (.inr (.inr hb))
   · exact .inr (.inl hb)
theorem add_full (h : HS) (x : PC) (w : World) (H : HeapRep w h) (hx : x.ok w) (hE : addE h.l x.c ≠ 0) :
 Calls Tryz.prog 91 #[ptr h.hp, x.val] w fun e w' => e = .returned (.tuple #[O.nil.val, .int .i64 5]) ∧ Chg NoB w w' := by
 obtain ⟨hp, slv, L⟩ := h; obtain ⟨u, v, huv⟩ := x.ptrs_eq
 have hval : x.val = .agg #[.pointer u, .pointer v] := by unfold PC.val; rw [huv]
 have K2 : ∀ w, x.ok w → Calls Tryz.prog 97 #[.agg #[.pointer u, .pointer v]] w fun e w' => e = .returned (.int .i64 x.c.size) ∧ Chg NoB w w' := fun w h => by rw [← hval]; exact size_any _ w h
 rw [hval]; clear hval huv; obtain ⟨sa, cap, rfl, -⟩ := H.shape; have hr := H.room; simp only [HS.l] at hr hE
 by_cases hl : (2000 : Int) ≤ (L.length : Int)
 · have hR := H.head
   have hd1 : decide ((2000 : Int) ≤ (L.length : Int)) = true := by simp; omega
   go_enter Tryz.func91, Tryz.ntmps91
   go_wp2_with fail
   have hB0 := blk_alloc (blk_new w (.cells #[.pointer u, .pointer v] 121)) (.cells #[.int .i64 0, .bool false, .int .i64 0, .int .i64 0, .int .i64 0, .string ⟨#[]⟩] 49); have hB1 := blk_new1 w (.cells #[.pointer u, .pointer v] 121) (.cells #[.int .i64 0, .bool false, .int .i64 0, .int .i64 0, .int .i64 0, .string ⟨#[]⟩] 49); have H1 := H.pure (((Chg.refl NoB w).alloc (.cells #[.pointer u, .pointer v] 121)).alloc (.cells #[.int .i64 0, .bool false, .int .i64 0, .int .i64 0, .int .i64 0, .string ⟨#[]⟩] 49)); have XW := ((Chg.refl NoB w).alloc (.cells #[.pointer u, .pointer v] 121)).alloc (.cells #[.int .i64 0, .bool false, .int .i64 0, .int .i64 0, .int .i64 0, .string ⟨#[]⟩] 49); generalize hW : (w.alloc _).alloc _ = w1 at *; clear hW hR; have hH1 := H1.head; have Rb := Chg.cells (S := NoB) hB0 id; have lb := blk_lt hB0; have Rh := Chg.cells (S := NoB) hH1 id; have lh := blk_lt hH1; have Rr := Chg.cells (S := NoB) hB1 id; have lr := blk_lt hB1; have X := Chg.refl NoB w1; have Z1 := Chg.free (S := NoB) hB1 id
   go_quiet (fail)
   go_wp2
   refine bodyPost_ret (v := .tuple #[O.nil.val, .int .i64 5]) (by simp [results, Tryz.results91, go_sem, Rr, X, cell_set_at, O.nil]) rfl ⟨rfl, ?_⟩
   (repeat' (first | with_reducible assumption | with_reducible refine Chg.alloc ?_ _ | with_reducible refine Chg.drew ?_ | with_reducible refine Chg.drewN ?_ _ | with_reducible refine Chg.setCell ?_ (Or.inr ?_) _ | exact Nat.le_refl _ | exact Nat.le_add_right _ _ | (simp; done) | (simp; omega)))
 · have hd1 : decide ((2000 : Int) ≤ (L.length : Int)) = false := by simp; omega
   have hu : 40000 - (used (L.map PC.c) : Int) < x.c.size := by
    simp only [addE, List.length_map] at hE
    by_cases c : 40000 - used (L.map PC.c) < x.c.size
    · omega
    · exact absurd (by rw [if_neg]; omega) hE
   have hA : IntKind.i64.wrap (40000 - (used (L.map PC.c) : Int)) = 40000 - (used (L.map PC.c) : Int) := IntWalk.i64_in _ (by omega)
   have hd2 : decide (40000 - (used (L.map PC.c) : Int) < (x.c.size : Int)) = true := by simp; omega
   have hR := H.head; go_enter Tryz.func91, Tryz.ntmps91
   go_wp2_with fail
   have hB0 := blk_alloc (blk_new w (.cells #[.pointer u, .pointer v] 121)) (.cells #[.int .i64 0, .bool false, .int .i64 0, .int .i64 0, .int .i64 0, .string ⟨#[]⟩] 49); have hB1 := blk_new1 w (.cells #[.pointer u, .pointer v] 121) (.cells #[.int .i64 0, .bool false, .int .i64 0, .int .i64 0, .int .i64 0, .string ⟨#[]⟩] 49); have H1 := H.pure (((Chg.refl NoB w).alloc (.cells #[.pointer u, .pointer v] 121)).alloc (.cells #[.int .i64 0, .bool false, .int .i64 0, .int .i64 0, .int .i64 0, .string ⟨#[]⟩] 49)); have XW := ((Chg.refl NoB w).alloc (.cells #[.pointer u, .pointer v] 121)).alloc (.cells #[.int .i64 0, .bool false, .int .i64 0, .int .i64 0, .int .i64 0, .string ⟨#[]⟩] 49); generalize hW : (w.alloc _).alloc _ = w1 at *; have hx1 := hx.chg XW (fun _ _ e => e); clear hW hR; have hH1 := H1.head; simp only [HS.l] at hH1; have Rb := Chg.cells (S := NoB) hB0 id; have lb := blk_lt hB0; have Rh := Chg.cells (S := NoB) hH1 id; have lh := blk_lt hH1; have Rr := Chg.cells (S := NoB) hB1 id; have lr := blk_lt hB1; have X := Chg.refl NoB w1; have Z1 := Chg.free (S := NoB) hB1 id
   go_region_held3 (fun w' => Chg NoB w1 w') (repeat' (first | with_reducible assumption | with_reducible refine Chg.drew ?_ | with_reducible refine Chg.alloc ?_ _ | with_reducible refine Chg.setCell ?_ (Or.inr ?_) _ | (with_reducible refine Chg.pure ?_ (by with_reducible assumption)) | exact Nat.le_refl _ | exact Chg.size (by assumption)))
    ((go_at_call 97; refine (K2 _ (hx1.chg (S := NoB) (by assumption) (fun _ _ e => e))).mono ?_; rintro e w4 ⟨rfl, hb4⟩))
   have hb5 : Chg NoB w1 w4 := by assumption
   have hB4 := hb5.blk hB1 id; have R4 := cells_of hB4; have l4 := blk_lt hB4; go_wp2
   refine bodyPost_ret (v := .tuple #[O.nil.val, .int .i64 5]) (by simp [results, Tryz.results91, go_sem, R4, cell_set_at, O.nil]) rfl ⟨rfl, ?_⟩; have := XW.trans hb5
   (repeat' (first | with_reducible assumption | with_reducible refine Chg.alloc ?_ _ | with_reducible refine Chg.drew ?_ | with_reducible refine Chg.drewN ?_ _ | with_reducible refine Chg.setCell ?_ (Or.inr ?_) _ | exact Nat.le_refl _ | exact Nat.le_add_right _ _ | (simp; done) | (simp; omega)))
set_option maxRecDepth 100000 in
set_option maxHeartbeats 4000000 in
theorem add_ok (h : HS) (x : PC) (w : World) (H : HeapRep w h) (hx : x.ok w) (hE : addE h.l x.c = 0) (hn : x.foot.Nodup) (hd : ∀ b ∈ x.foot, b ∉ h.foot) :
 Calls Tryz.prog 91 #[ptr h.hp, x.val] w fun e w' => e = .returned (.tuple #[(objOf h.l x.c).val, .int .i64 0]) ∧
  ∃ h' : HS, h'.hp = h.hp ∧ h'.L = h.L ++ [x] ∧ HeapRep w' h' ∧ Chg (· ∈ h.foot) w w' ∧ ∀ b ∈ h'.foot, b ∈ h.foot ∨ b ∈ x.foot ∨ w.heap.size ≤ b := by
 obtain ⟨hp, slv, L⟩ := h; obtain ⟨u, v, huv⟩ := x.ptrs_eq
 have hval : x.val = .agg #[.pointer u, .pointer v] := by unfold PC.val; rw [huv]
 have K1 : ∀ w, x.ok w → Calls Tryz.prog 96 #[.agg #[.pointer u, .pointer v]] w fun e w' => e = .returned (.int .i64 x.c.kind) ∧ Chg NoB w w' := fun w h => by rw [← hval]; exact kind_any _ w h
 have K2 : ∀ w, x.ok w → Calls Tryz.prog 97 #[.agg #[.pointer u, .pointer v]] w fun e w' => e = .returned (.int .i64 x.c.size) ∧ Chg NoB w w' := fun w h => by rw [← hval]; exact size_any _ w h
 rw [hval]; clear hval; have hr := H.room; simp only [HS.l] at hr hE; simp only [addE, List.length_map] at hE
 have hl : L.length < 2000 := by
  by_cases c : 2000 ≤ L.length
  · rw [if_pos (.inl c)] at hE; simp at hE
  · omega
 have hu : (used (L.map PC.c) : Int) + x.c.size ≤ 40000 := by
  by_cases c : 40000 - used (L.map PC.c) < x.c.size
  · rw [if_pos (.inr c)] at hE; simp at hE
  · omega
 clear hE
 have hd1 : decide ((2000 : Int) ≤ (L.length : Int)) = false := by simp; omega
 have hA : IntKind.i64.wrap (40000 - (used (L.map PC.c) : Int)) = 40000 - (used (L.map PC.c) : Int) := IntWalk.i64_in _ (by omega)
 have hd2 : decide (40000 - (used (L.map PC.c) : Int) < (x.c.size : Int)) = false := by simp; omega
 obtain ⟨sa, cap, rfl, -⟩ := H.shape; go_enter Tryz.func91, Tryz.ntmps91
 go_wp2_with fail
 have hB0 := blk_alloc (blk_new w (.cells #[.pointer u, .pointer v] 121)) (.cells #[.int .i64 0, .bool false, .int .i64 0, .int .i64 0, .int .i64 0, .string ⟨#[]⟩] 49); have hB1 := blk_new1 w (.cells #[.pointer u, .pointer v] 121) (.cells #[.int .i64 0, .bool false, .int .i64 0, .int .i64 0, .int .i64 0, .string ⟨#[]⟩] 49); have H1 := H.pure (((Chg.refl NoB w).alloc (.cells #[.pointer u, .pointer v] 121)).alloc (.cells #[.int .i64 0, .bool false, .int .i64 0, .int .i64 0, .int .i64 0, .string ⟨#[]⟩] 49)); have XW := ((Chg.refl NoB w).alloc (.cells #[.pointer u, .pointer v] 121)).alloc (.cells #[.int .i64 0, .bool false, .int .i64 0, .int .i64 0, .int .i64 0, .string ⟨#[]⟩] 49); generalize hW : (w.alloc _).alloc _ = w1 at *; have hx1 := hx.chg XW (fun _ _ e => e); clear hW; have hH1 := H1.head; simp only [HS.l] at hH1; have Rb := Chg.cells (S := NoB) hB0 id; have lb := blk_lt hB0; have Rh := Chg.cells (S := NoB) hH1 id; have lh := blk_lt hH1; have Rr := Chg.cells (S := NoB) hB1 id; have lr := blk_lt hB1; have X := Chg.refl NoB w1
 go_region_held3 (fun w' => Chg NoB w1 w') (repeat' (first | with_reducible assumption | with_reducible refine Chg.drew ?_ | with_reducible refine Chg.alloc ?_ _ | with_reducible refine Chg.setCell ?_ (Or.inr ?_) _ | (with_reducible refine Chg.pure ?_ (by with_reducible assumption)) | exact Nat.le_refl _ | exact Chg.size (by assumption)))
  ((go_at_call 97; refine (K2 _ (hx1.chg (S := NoB) (by assumption) (fun _ _ e => e))).mono ?_; rintro e w4 ⟨rfl, hb4⟩))
 have hb5 : Chg NoB w1 w4 := by assumption
 have hx4 := hx1.chg hb5 (fun _ _ e => e); have H4 := H1.pure hb5; have hB04 := hb5.blk hB0 id; have hB14 := hb5.blk hB1 id; have hH4 := H4.head; simp only [HS.l] at hH4; have XW4 := XW.trans hb5; clear Rb Rh Rr lb lh lr X hB0 hB1 hH1 XW H1 hx1; generalize w4 = w5 at *; have Rb := Chg.cells (S := NoB) hB04 id; have lb := blk_lt hB04; have Rh := Chg.cells (S := NoB) hH4 id; have lh := blk_lt hH4; have X := Chg.refl NoB w5
 go_upto_region 3 with (fail)
 obtain ⟨i0, hi, hz0, hz1, hz2⟩ := info_parts Tryz.infoCell; have HO : Hid (∀ W, Chg NoB w5 W → W.ownsRow 0 121 2 (.slice sa L.length cap) L.length (L.flatMap PC.ptrs)) := fun W hc => owns_chg H4.own hc (fun _ _ e => e); have hap := H4.apart; simp only [HS.foot, List.nodup_cons, List.mem_append, not_or] at hap; have hnot := Hid.mk' hap.1.1; clear hap
 go_cut [] (fun wx => ∃ g cap', wx.ownsRow 0 121 2 (.slice (some ⟨g, 0, none⟩) (L.length + 1) cap') (L.length + 1) (L.flatMap PC.ptrs ++ [.pointer u, .pointer v]) ∧ wx.heap[hp]? = some (.cells #[.slice (some ⟨g, 0, none⟩) (L.length + 1) cap', .int .i64 (used (L.map PC.c) : Nat)] 84 (0, 0)) ∧
  Chg (fun b => b = hp ∨ b ∈ (Value.slice sa L.length cap).ownBlock.toList) w5 wx ∧ ((Value.slice sa L.length cap).ownBlock = some g ∨ w5.heap.size ≤ g))
 case first =>
  go_region_law ((
   refine step_append_lies _ rfl (.tmp 28) (.tmp 30) 82 rfl 0 121 i0 (.agg #[.pointer none, .pointer none]) 2 16 Tryz.underCells hi hz0 hz1 hz2 rfl (by decide) (.slice sa L.length cap) L.length (L.flatMap PC.ptrs) rfl (HO.out _ (((Chg.refl NoB w5).alloc _).drew)) _ 1 1 [.pointer u, .pointer v] rfl rfl (fun j u' hj => cells_new w5 [.pointer u, .pointer v] 121 j u' hj) (one2 u v) (by decide) (by unfold maxLen; omega) (by omega) (Nat.zero_le _) _ rfl ?_; intro g cap' w6 hown hgr hg hgl; have C6 : Chg (fun b => b ∈ (Value.slice sa L.length cap).ownBlock.toList) w5 w6 := Chg.grown (((Chg.refl _ w5).alloc _).drew) hgr (fun k hk => .inl (by simp [hk])); have hH6 := C6.blk hH4 hnot.out; have Rh6 := cells_of hH6; have Zh6 := free_of hH6
   have lh6 := blk_lt hH6))
  all_goals
   go_wp2_with fail
   go_meet
   have hgh : g ≠ hp := by
    rintro rfl
    rcases hg with hg | hg
    · exact hnot.out (by simp [hg])
    · simp at hg; omega
   have hst := blk_set hH6 0 (.slice (some ⟨g, 0, none⟩) (L.length + 1) cap'); simp only [List.setIfInBounds_toArray, List.set_cons_zero] at hst; have hs6 := (Chg.refl (fun b => b = hp) w6).one (p := ⟨hp, 0, none⟩) rfl (.slice (some ⟨g, 0, none⟩) (L.length + 1) cap')
   exact ⟨g, cap', owns_chg hown hs6 (fun b hb e => by simp [Value.ownBlock] at hb; omega), hst,
    (C6.mono (fun _ _ e => .inr e)).one (p := ⟨hp, 0, none⟩) (.inl rfl) _, hg.imp id (fun e => by rw [e]; simp)⟩
 case rest =>
  obtain ⟨g, cap', hown, hH6, C6, hg⟩ := hcut; generalize wc = w7 at *
  have hxh := fun b hb => (hd b hb)
  have hS : ∀ b ∈ x.foot, ¬ (b = hp ∨ b ∈ (Value.slice sa L.length cap).ownBlock.toList) := fun b hb e => hd b hb (by
   simp only [HS.foot, List.mem_cons, List.mem_append]; exact e.imp id .inl)
  have hx6 := hx4.chg C6 hS; have hlw := H.lt
  have hnew : ∀ b, w.heap.size ≤ b → ¬ (b = hp ∨ b ∈ (Value.slice sa L.length cap).ownBlock.toList) := fun b hb e => by
   have := hlw b (by simp only [HS.foot, List.mem_cons, List.mem_append]; exact e.imp id .inl); omega
  have hB06 := C6.blk hB04 (hnew _ (Nat.le_refl _)); have hB16 := C6.blk hB14 (hnew _ (Nat.le_add_right _ _)); have hA2 : IntKind.i64.wrap ((used (L.map PC.c) : Int) + (x.c.size : Int)) = (used (L.map PC.c) : Int) + (x.c.size : Int) := IntWalk.i64_in _ (by omega); have Z6 := Chg.free (S := NoB) hH6 id; clear Rb Rh lb lh X hlw; have Rb := Chg.cells (S := NoB) hB06 id; have lb := blk_lt hB06; have Rh := Chg.cells (S := NoB) hH6 id; have lh := blk_lt hH6; have X := Chg.refl NoB w7
  go_upto_region 4 with (fail)
  go_cut [] (fun wx => ∃ wy, Chg NoB w7 wy ∧ wx = (wy.setCell ⟨hp, 1, none⟩ (.int .i64 ((used (L.map PC.c) : Int) + (x.c.size : Int)))))
  case first =>
   go_region_with (go_at_call 97; refine (K2 _ (hx6.chg (S := NoB) (((Chg.refl NoB w7).drew)) (fun _ _ e => e))).mono ?_; rintro e w8 ⟨rfl, hb7⟩; have hb8 := X.drew.trans hb7)
   all_goals
    go_wp2_with fail
    go_meet
    exact ⟨w8, hb8, rfl⟩
  case rest =>
   obtain ⟨wy, hy, rfl⟩ := hcut; have h1 := blk_set (hy.blk hH6 id) 1 (.int .i64 ((used (L.map PC.c) : Int) + (x.c.size : Int))); have lhp : hp < w5.heap.size := blk_lt H4.head; simp only [List.setIfInBounds_toArray, List.set_cons_zero, List.set_cons_succ] at h1
   have hgh : g ≠ hp := by
    rintro rfl
    rcases hg with hg | hg
    · exact hnot.out (by simp [hg])
    · omega
   have c9 := ((Chg.refl (fun b => b = hp) wy).one (p := ⟨hp, 1, none⟩) rfl (.int .i64 ((used (L.map PC.c) : Int) + (x.c.size : Int))))
   have h2 := owns_chg (owns_chg hown hy (fun _ _ e => e)) c9 (fun b hb e => by simp [Value.ownBlock] at hb; omega)
   have hc := ((C6.pure hy).one (p := ⟨hp, 1, none⟩) (.inl rfl) (.int .i64 ((used (L.map PC.c) : Int) + (x.c.size : Int))))
   have hx9 := hx4.chg hc hS; have hB09 := hc.blk hB04 (hnew _ (Nat.le_refl _)); have hB19 := hc.blk hB14 (hnew _ (Nat.le_add_right _ _)); generalize hw9 : (wy.setCell ⟨hp, 1, none⟩ (.int .i64 ((used (L.map PC.c) : Int) + (x.c.size : Int)))) = w9 at *; have HG := HeapRep.grow H4 hx4 hc (by rw [Int.natCast_add]; exact h1) (by rw [huv]; exact h2) rfl hg hn hd hl (by omega); have hB1k := hB14; clear hw9 c9 hy hx6 hB06 hB16 hH6 hown Rb Rh lb lh X Z6 hB04 hB14 hH4 h2 wy; obtain ⟨H9, F9⟩ := HG
   have hC9 : Chg (· ∈ HS.foot ⟨hp, .slice sa L.length cap, L⟩) w w9 := (XW4.mono (fun _ _ e => e.elim)).trans (hc.mono (fun b _ e => by
    simp only [HS.foot, List.mem_cons, List.mem_append]; exact e.imp id .inl))
   have hF9 : ∀ b ∈ HS.foot ⟨hp, .slice (some ⟨g, 0, none⟩) (L.length + 1) cap', L ++ [x]⟩, b ∈ HS.foot ⟨hp, .slice sa L.length cap, L⟩ ∨ b ∈ x.foot ∨ w.heap.size ≤ b := fun b hb => (F9 b hb).imp id (fun e => e.imp id (fun e => Nat.le_trans XW4.size e)); clear hc C6; generalize slv' : Value.slice (some (⟨g, 0, none⟩ : Addr)) (L.length + 1) cap' = sl9 at *; have hH9 := H9.head; have hsl9 : sl9 = .slice (some ⟨g, 0, none⟩) (L.length + 1) cap' := slv'.symm; simp only [HS.l] at hH9; rw [hsl9] at hH9; clear slv' h1; have HS9 := Hid.mk' hsl9; clear hsl9; have Rb := Chg.cells (S := NoB) hB09 id; have lb := blk_lt hB09; have Rh := Chg.cells (S := NoB) hH9 id; have lh := blk_lt hH9; have X := Chg.refl NoB w9; have hWl : IntKind.i64.wrap (L.length : Int) = L.length := IntWalk.i64_in _ (by omega)
   go_upto_region 5 with (fail)
   go_cut [6] (fun s6 wx => ∃ q, s6 = .pointer (some ⟨q, 0, none⟩) ∧ w9.heap.size ≤ q ∧ wx.heap[q]? = some (.cells #[.int .i64 x.c.kind, .bool false, .int .i64 L.length, .int .i64 0, .int .i64 0, .string ⟨#[]⟩] 49 (0, 0)) ∧ Chg NoB w9 wx)
   case first =>
    go_region_held3 (fun w' => Chg NoB w9 w') (repeat' (first | with_reducible assumption | with_reducible refine Chg.drew ?_ | with_reducible refine Chg.alloc ?_ _ | with_reducible refine Chg.setCell ?_ (Or.inr ?_) _ | (with_reducible refine Chg.pure ?_ (by with_reducible assumption)) | exact Nat.le_refl _ | exact Chg.size (by assumption)))
     ((go_at_call 96; refine (K1 _ (hx9.chg (S := NoB) (by assumption) (fun _ _ e => e))).mono ?_; rintro e wa ⟨rfl, hba⟩; have hbb := Chg.trans (by assumption) hba; try (have hq := Chg.blk hba (blk_drew (blk_new w9 _)) id; have Rq := cells_of hq; have Zq := free_of hq; have lq := blk_lt hq)))
    all_goals
     go_wp2_with fail
     go_meet
     first
      | exact ⟨_, rfl, hbb.size, blk_new _ _, hbb.alloc _⟩
      | (refine ⟨_, rfl, Nat.le_refl _, ?_, (((((hbb.setCell (.inr (Nat.le_refl _)) _).setCell (.inr (Nat.le_refl _)) _).setCell (.inr (Nat.le_refl _)) _).setCell (.inr (Nat.le_refl _)) _).setCell (.inr (Nat.le_refl _)) _).setCell (.inr (Nat.le_refl _)) _⟩
         have := blk_set (blk_set (blk_set (blk_set (blk_set (blk_set hq 0 (.int .i64 x.c.kind)) 1 (.bool false)) 2 (.int .i64 L.length)) 3 (.int .i64 0)) 4 (.int .i64 0)) 5 (.string ⟨#[]⟩); simp only [List.setIfInBounds_toArray, List.set_cons_zero, List.set_cons_succ] at this
         exact this)
   case rest =>
    obtain ⟨q, rfl, hq1, hq2, hcq⟩ := hcut; have l5 : w.heap.size + 1 < w5.heap.size := blk_lt hB1k
    have hT : w.heap.size + 1 ∉ HS.foot ⟨hp, sl9, L ++ [x]⟩ := fun hb => by
     rcases F9 _ hb with hb | hb | hb
     · have := H4.lt _ hb; have := H.lt _ hb; omega
     · have := hx.lt _ hb; omega
     · omega
    have hQ : q ∉ HS.foot ⟨hp, sl9, L ++ [x]⟩ := fun hb => by have := H9.lt _ hb; omega
    have hB0c := hcq.blk hB09 id; have hB1c := hcq.blk hB19 id; have hxc := hx9.chg hcq (fun _ _ e => e); have Hc := H9.pure hcq; have hCc := hC9.pure hcq
    have hqT : w.heap.size + 1 < q := by have := blk_lt hB19; omega
    clear Rb Rh lb lh X hH9 hq1 hB09 hB19 hx9 H9 hC9 hcq F9 hx4 H4; generalize wc = w10 at *
    have fin : ∀ (W : World), Chg (fun b => b = w.heap.size + 1 ∨ b = q) w10 W → ∃ h' : HS, h'.hp = hp ∧ h'.L = L ++ [x] ∧ HeapRep W h' ∧ Chg (· ∈ HS.foot ⟨hp, .slice sa L.length cap, L⟩) w W ∧ ∀ b ∈ h'.foot, b ∈ HS.foot ⟨hp, .slice sa L.length cap, L⟩ ∨ b ∈ x.foot ∨ w.heap.size ≤ b := fun W hW =>
     ⟨⟨hp, sl9, L ++ [x]⟩, rfl, rfl, Hc.chg hW (fun b hb e => by rcases e with rfl | rfl; exact hT hb; exact hQ hb),
      hCc.trans' hW (fun i hi e => by rcases e with rfl | rfl <;> omega), hF9⟩
    have Fin := Hid.mk' fin; clear fin; clear hnew hS hxh hg hgh hnot HO hi hz0 hz1 hz2 hT hQ Hc hCc hF9 HS9
    by_cases hk10 : x.c.kind = 10
    · have hobj : objOf (HS.l ⟨hp, .slice sa L.length cap, L⟩) x.c = ⟨10, false, L.length, 0, 0, ⟨#[]⟩⟩ := by simp [objOf, hk10]
      have HOb := Hid.mk' hobj; clear hobj; have Rb := Chg.cells (S := NoB) hB0c id; have lb := blk_lt hB0c; have Rq := Chg.cells (S := NoB) hq2 id; have lq := blk_lt hq2; have Rt := Chg.cells (S := NoB) hB1c id; have lt := blk_lt hB1c; have X := Chg.refl NoB w10; have Zt := Chg.free (S := NoB) hB1c id; go_wp2
      refine bodyPost_ret (v := .tuple #[.agg #[.int .i64 10, .bool false, .int .i64 L.length, .int .i64 0, .int .i64 0, .string ⟨#[]⟩], .int .i64 0]) (by simp [results, Tryz.results91, go_sem, Rt, X, cell_set_at]) rfl ⟨by rw [HOb.out], Fin.out _ ?_⟩; have X2 := Chg.refl (fun b => b = w.heap.size + 1 ∨ b = q) w10
      repeat' (first | with_reducible assumption | with_reducible refine Chg.setCell ?_ (Or.inl (Or.inl rfl)) _)
    · have hkb : (x.c.kind == 10) = false := by simpa using hk10
      have hkc : (x.c.kind != 10) = true := by simpa using hk10
      have hobj : objOf (HS.l ⟨hp, .slice sa L.length cap, L⟩) x.c = ⟨x.c.kind, false, L.length, 0, x.c.size, ⟨#[]⟩⟩ := by simp [objOf, hk10]
      have HOb := Hid.mk' hobj; clear hobj; have Rb := Chg.cells (S := NoB) hB0c id; have lb := blk_lt hB0c; have Rq := Chg.cells (S := NoB) hq2 id; have lq := blk_lt hq2; have Rt := Chg.cells (S := NoB) hB1c id; have lt := blk_lt hB1c; have X := Chg.refl NoB w10; go_wp2_with fail
      refine (K2 _ hxc).mono ?_; rintro e w11 ⟨rfl, hb11⟩; have hq3 := hb11.blk hq2 id; have ht3 := hb11.blk hB1c id; have X2 := (Chg.refl (fun b => b = w.heap.size + 1 ∨ b = q) w10).pure hb11
      have hqt : q ≠ w.heap.size + 1 := by omega
      have hqt' : w.heap.size + 1 ≠ q := by omega
      clear Rb Rq Rt lb lq lt X hb11; have Rq := Chg.cells (S := NoB) hq3 id; have lq := blk_lt hq3; have Rt := Chg.cells (S := NoB) ht3 id; have lt := blk_lt ht3; have X := Chg.refl NoB w11; have Zt := Chg.free (S := NoB) ht3 id; have Zq := Chg.free (S := NoB) hq3 id; have hq4 := blk_set hq3 4 (.int .i64 x.c.size); simp only [List.setIfInBounds_toArray, List.set_cons_zero, List.set_cons_succ] at hq4; have Rq4 := cells_of hq4; go_wp2
      refine bodyPost_ret (v := .tuple #[.agg #[.int .i64 x.c.kind, .bool false, .int .i64 L.length, .int .i64 0, .int .i64 x.c.size, .string ⟨#[]⟩], .int .i64 0]) (by simp [results, Tryz.results91, go_sem, Rt, X, cell_set_at, World.cell?_setCell_far, hqt]) rfl ⟨by rw [HOb.out], Fin.out _ ?_⟩
      repeat' (first | with_reducible assumption | with_reducible refine Chg.setCell ?_ (Or.inl (Or.inl rfl)) _ | with_reducible refine Chg.setCell ?_ (Or.inl (Or.inr rfl)) _)
end Go.Proofs.YtpiomapnmempoaaGreat
