/- Walk: Items. -/
import Derived.Test.YtgllgemjfpiogaaHby
import Derived.Laws.AppendOwnNone
namespace Go.Proofs.Ytgllgemjfpiogaa
open Go.RowKit

theorem flat_drop_take (L : List O) (p z : Nat) : ((L.drop p).take z).flatMap O.cells = ((L.flatMap O.cells).drop (p * 6)).take (z * 6) := by
  have hd : ∀ (L : List O) (p : Nat), (L.drop p).flatMap O.cells = (L.flatMap O.cells).drop (p * 6) := by
    intro L
    induction L with
    | nil => intro p; simp
    | cons x L ih =>
      intro p
      cases p with
      | zero => simp
      | succ p =>
        rw [List.drop_succ_cons, ih, List.flatMap_cons, List.drop_append, show O.cells x = O.cells x from rfl]
        rw [@List.drop_eq_nil_of_le _ (O.cells x) _ (by rw [cells_length]; omega), List.nil_append, cells_length]
        congr 1; omega
  have ht : ∀ (L : List O) (z : Nat), (L.take z).flatMap O.cells = (L.flatMap O.cells).take (z * 6) := by
    intro L
    induction L with
    | nil => intro z; simp
    | cons x L ih =>
      intro z
      cases z with
      | zero => simp
      | succ z =>
        rw [List.take_succ_cons, List.flatMap_cons, ih, List.flatMap_cons, List.take_append]
        rw [List.take_of_length_le (l := O.cells x) (by rw [cells_length]; omega), cells_length]
        congr 2; omega
  rw [ht, hd]

/-- A piece of a row of objects. -/
theorem cut_items {w1 : World} {v : Value} {L : List O} (h : Row w1 28 6 v L.length (L.flatMap O.cells)) (p z : Int) (hp : 0 ≤ p) (hz : 0 ≤ z) (hpz : p + z ≤ L.length) :
    ∃ A c', (∀ W, (Instr.slice 41 v (some (.int .i64 p)) (some (.int .i64 (p + z))) none).run Try.prog W = .ok (.slice A z.toNat c') W) ∧
      ((A = none ∧ z = 0 ∧ c' = 0 ∧ p = 0) ∨ ∃ ad, A = some ad ∧ ∀ W, Chg NoB w1 W → ∀ j u, (((L.drop p.toNat).take z.toNat).flatMap O.cells)[j]? = some u → W.cell? (ad.add j) = some u) := by
  rcases h.2 with ⟨rfl, hn⟩ | ⟨g, cap, cur, fz, rfl, hcur, hfz, hnc, hcm, hcs, htk⟩
  · have hp0 : p = 0 := by omega
    have hz0 : z = 0 := by omega
    subst hp0; subst hz0
    refine ⟨none, 0, fun W => ?_, .inl ⟨rfl, rfl, rfl, rfl⟩⟩
    rw [run_slice_lh (w := W) 41 none 0 0 (by rw [Try.elemObjs]; exact Try.underObjs) .i64 .i64 0 (0 + 0) (by omega) (by omega) (by omega), Try.elemObjs, sizeOf_obj]
    simp [sliced]
  · refine ⟨if cap = p.toNat then some ⟨g, 0, none⟩ else some ((⟨g, 0, none⟩ : Addr).add (p.toNat * 6)), cap - p.toNat, fun W => ?_, .inr ⟨if cap = p.toNat then ⟨g, 0, none⟩ else (⟨g, 0, none⟩ : Addr).add (p.toNat * 6), by split <;> rfl, fun W hW j u hj => ?_⟩⟩
    · rw [run_slice_lh (w := W) 41 (some ⟨g, 0, none⟩) _ cap (by rw [Try.elemObjs]; exact Try.underObjs) .i64 .i64 p (p + z) hp (by omega) (by omega), Try.elemObjs, sizeOf_obj]
      simp only [Result.andThen_ok, sliced, Option.map_some]
      rw [show (p + z).toNat - p.toNat = z.toNat by omega]
    · have hc' := hW.blk hcur id
      rw [flat_drop_take, List.getElem?_take] at hj
      split at hj
      · rename_i hjz
        rw [List.getElem?_drop] at hj
        have hlt : p.toNat * 6 + j < L.length * 6 := by omega
        rw [if_neg (by omega), add_add, cells_of hc', ← Array.getElem?_toList]
        have : cur.toList[p.toNat * 6 + j]? = (cur.toList.take (L.length * 6))[p.toNat * 6 + j]? := by rw [List.getElem?_take, if_pos hlt]
        rw [this, htk]; exact hj
      · simp at hj

theorem cells_one (o : O) : ∀ u ∈ o.cells, u.oneCell' = true := by
  intro u hu; simp only [O.cells, List.mem_cons, List.not_mem_nil, or_false] at hu
  rcases hu with rfl | rfl | rfl | rfl | rfl | rfl <;> rfl
theorem flat_one (L : List O) : ∀ u ∈ L.flatMap O.cells, u.oneCell' = true := by
  intro u hu
  obtain ⟨o, _, ho⟩ := List.mem_flatMap.1 hu
  exact cells_one o u ho

def itemsH (L : List C) (o : O) : List O × Int :=
  if findE L o ≠ 0 then ([], findE L o) else match L[o.n.toNat]? with
    | none => ([], 0)
    | some c => if c.text then ([], 6) else ((c.items.drop (atOf o).toNat).take (lenOf c o).toNat, 0)

set_option maxRecDepth 100000 in
set_option maxHeartbeats 1000000 in
theorem items_any (h : HS) (o : O) (w : World) (H : HeapRep w h) :
   Calls Try.prog 45 #[ptr h.hp, o.val] w fun e w' => ∃ v, e = .returned (.tuple #[v, .int .i64 (itemsH h.l o).2]) ∧ Chg NoB w w' ∧
     w'.ownsRow w.heap.size 28 6 v (itemsH h.l o).1.length ((itemsH h.l o).1.flatMap O.cells) := by
  obtain ⟨hp, slv, L⟩ := h
  obtain ⟨k, ex, N, a, l, s⟩ := o
  by_cases hE : findE (HS.l ⟨hp, slv, L⟩) ⟨k, ex, N, a, l, s⟩ ≠ 0
  · have hs : itemsH (HS.l ⟨hp, slv, L⟩) ⟨k, ex, N, a, l, s⟩ = ([], findE (HS.l ⟨hp, slv, L⟩) ⟨k, ex, N, a, l, s⟩) := by simp [itemsH, hE]
    rw [hs]
    have hb : (findE (HS.l ⟨hp, slv, L⟩) ⟨k, ex, N, a, l, s⟩ != 0) = true := by simpa using hE
    have FB := fun w' (H' : HeapRep w' ⟨hp, slv, L⟩) => find_bad ⟨hp, slv, L⟩ ⟨k, ex, N, a, l, s⟩ w' H' hE
    generalize findE (HS.l ⟨hp, slv, L⟩) ⟨k, ex, N, a, l, s⟩ = fe at *
    go_enter Try.func45, Try.ntmps45
    go_wp2_with fail
    refine (FB _ (H.pure ((Chg.refl NoB w).alloc _))).mono ?_
    rintro e w1 ⟨rfl, hb1⟩
    have hB0 := hb1.blk (blk_new w _) id
    have H1 := (H.pure ((Chg.refl NoB w).alloc _)).pure hb1
    have XW := ((Chg.refl NoB w).alloc _).pure hb1
    clear hb1
    clear FB
    go_wp2
    go_ret2
    refine ⟨_, rfl, ?_, World.ownsRow_nil _ _ _ _⟩
    (repeat' (first | with_reducible assumption | with_reducible refine Chg.alloc ?_ _ | with_reducible refine Chg.drew ?_ | with_reducible refine Chg.drewN ?_ _ | with_reducible refine Chg.setCell ?_ (Or.inr ?_) _ | exact Nat.le_refl _ | exact Nat.le_add_right _ _ | (simp; done) | (simp; omega)))
  simp only [ne_eq, Decidable.not_not] at hE
  obtain ⟨hn, hok, hx, hc, hk, hat, hle, hsz, -⟩ := findE_good H hE
  have hsm := cell_small H hx
  have FG := fun w' (H' : HeapRep w' ⟨hp, slv, L⟩) => find_good ⟨hp, slv, L⟩ ⟨k, ex, N, a, l, s⟩ w' H' hE hn
  simp only at FG hn hc hx hat hle hsz hsm
  have hs : itemsH (HS.l ⟨hp, slv, L⟩) ⟨k, ex, N, a, l, s⟩ = (if L[N.toNat].c.text then ([], 6) else ((L[N.toNat].c.items.drop (atOf ⟨k, ex, N, a, l, s⟩).toNat).take (lenOf L[N.toNat].c ⟨k, ex, N, a, l, s⟩).toNat, 0)) := by
    simp [itemsH, hE, hc]
  rw [hs]
  clear hs hE hc hok hk
  generalize lenOf L[N.toNat].c ⟨k, ex, N, a, l, s⟩ = z at *
  generalize L[N.toNat] = x at *
  generalize atOf ⟨k, ex, N, a, l, s⟩ = p at *
  by_cases ht : x.c.text = true
  · rw [if_pos ht]
    have hval : x.val = .agg #[.pointer none, ptr x.p] := by simp [PC.val, PC.ptrs, ht]
    rw [hval] at FG
    clear hval
    go_enter Try.func45, Try.ntmps45
    go_wp2_with fail
    refine (FG _ (H.pure ((Chg.refl NoB w).alloc _))).mono ?_
    rintro e w1 ⟨rfl, hb1⟩
    have hB0 := hb1.blk (blk_new w _) id
    have H1 := (H.pure ((Chg.refl NoB w).alloc _)).pure hb1
    have XW := ((Chg.refl NoB w).alloc _).pure hb1
    clear hb1
    clear FG
    go_wp2
    go_ret2
    refine ⟨_, rfl, ?_, World.ownsRow_nil _ _ _ _⟩
    (repeat' (first | with_reducible assumption | with_reducible refine Chg.alloc ?_ _ | with_reducible refine Chg.drew ?_ | with_reducible refine Chg.drewN ?_ _ | with_reducible refine Chg.setCell ?_ (Or.inr ?_) _ | exact Nat.le_refl _ | exact Nat.le_add_right _ _ | (simp; done) | (simp; omega)))
  · have htf : x.c.text = false := by simpa using ht
    rw [if_neg ht]
    have hval : x.val = .agg #[ptr x.p, .pointer none] := by simp [PC.val, PC.ptrs, htf]
    rw [hval] at FG
    clear hval
    have hA : IntKind.i64.wrap (p + z) = p + z := IntWalk.i64_in _ (by omega)
    have hsz2 : p + z ≤ (x.c.items.length : Int) := by simpa [C.size, htf] using hsz
    obtain ⟨b, hb⟩ : ∃ b : List O, b = (x.c.items.drop p.toNat).take z.toNat := ⟨_, rfl⟩
    have hbl : b.length = z.toNat := by rw [hb]; simp; omega
    rw [← hb]
    go_enter Try.func45, Try.ntmps45
    go_wp2_with fail
    refine (FG _ (H.pure ((Chg.refl NoB w).alloc _))).mono ?_
    rintro e w1 ⟨rfl, hb1⟩
    have hB0 := hb1.blk (blk_new w _) id
    have H1 := (H.pure ((Chg.refl NoB w).alloc _)).pure hb1
    have XW := ((Chg.refl NoB w).alloc _).pure hb1
    clear hb1
    have hok1 := H1.cell x hx
    have hhd := hok1.head.2 htf
    obtain ⟨A, c', e1, e2⟩ := cut_items (hok1.itemRow htf) p z hat hle hsz2
    rw [← hb] at e2
    have HBL := Hid.mk' hbl
    clear FG hb hbl
    have Rx := Chg.cells (S := NoB) hhd id
    have lx := blk_lt hhd
    have X := Chg.refl NoB w1
    obtain ⟨i0, hi, hz0, hz1, hz2⟩ := info_parts Try.infoObj
    have wsz : w.heap.size ≤ w1.heap.size := XW.size
    rcases e2 with ⟨rfl, rfl, rfl, rfl⟩ | ⟨ad, rfl, hnews⟩
    · simp only [Int.add_zero, Int.toNat_zero] at e1 hA
      go_wp2_with (at_builtin; refine wpList_append_own_none rfl _ _ 41 rfl w.heap.size 28 i0 6 Try.underObjs hi (.slice none 0 0) 0 [] rfl (World.ownsRow_nil _ _ _ _) rfl ?_)
      go_ret2
      refine ⟨_, rfl, ?_, ?_⟩
      · (repeat' (first | with_reducible assumption | with_reducible refine Chg.alloc ?_ _ | with_reducible refine Chg.drew ?_ | with_reducible refine Chg.drewN ?_ _ | with_reducible refine Chg.setCell ?_ (Or.inr ?_) _ | exact Nat.le_refl _ | exact Nat.le_add_right _ _ | (simp; done) | (simp; omega)))
      · have : b = [] := List.eq_nil_of_length_eq_zero (by rw [HBL.out]; rfl)
        subst this
        exact World.ownsRow_nil _ _ _ _
    · have HN := Hid.mk' hnews
      clear hnews
      go_wp2_with (at_builtin; refine wpList_append_own _ rfl _ _ 41 rfl w.heap.size 28 i0 O.nil.val 6 56 Try.underObjs hi hz0 hz1 hz2 rfl (by decide) (.slice none 0 0) 0 [] rfl (World.ownsRow_nil _ _ _ _) ad z.toNat c' (b.flatMap O.cells) rfl (by rw [flat_length O.cells 6 cells_length, HBL.out]) (fun j u hj => HN.out _ (X.alloc _) j u hj) (flat_one b) ?_ ?_ ?_ ?_; (unfold maxLen; omega); omega; (simp; omega); intro v' w2 hown hgr _)
      have XG : Chg NoB w w2 := Chg.grown (XW.alloc _) hgr (fun k hk => by simp [Value.ownBlock] at hk)
      go_ret2
      refine ⟨_, rfl, XG, ?_⟩
      rw [HBL.out]
      simpa using hown
end Go.Proofs.Ytgllgemjfpiogaa
