/- Parts of the proof: Hit, Hbec, Hbw. -/
import Derived.Laws.AppendOwnNone
import Derived.Test.YtpiomapnmempoaaGreatY05
namespace Go.Proofs.YtpiomapnmempoaaGreat
open Go.RowKit
variable {v : Value} {w w' : World} {B n : Nat} {T : TypeId} {xs : List Value}
theorem flat_drop_take (L : List O) (p z : Nat) : ((L.drop p).take z).flatMap O.cells = ((L.flatMap O.cells).drop (p * 6)).take (z * 6) := by
 have hd : ∀ (L : List O) (p : Nat), (L.drop p).flatMap O.cells = (L.flatMap O.cells).drop (p * 6) := by
  intro L
  induction L with
  | nil => intro p; simp
  | cons x L ih =>
   intro p
   cases p with
   | zero => simp
   | succ p =>
    rw [List.drop_succ_cons, ih, List.flatMap_cons, List.drop_append, show O.cells x = O.cells x from rfl]; rw [@List.drop_eq_nil_of_le _ (O.cells x) _ (by rw [cells_length]; omega), List.nil_append, cells_length]
    congr 1; omega
 have ht : ∀ (L : List O) (z : Nat), (L.take z).flatMap O.cells = (L.flatMap O.cells).take (z * 6) := by
  intro L
  induction L with
  | nil => intro z; simp
  | cons x L ih =>
   intro z
   cases z with
   | zero => simp
   | succ z =>
    rw [List.take_succ_cons, List.flatMap_cons, ih, List.flatMap_cons, List.take_append]; rw [List.take_of_length_le (l := O.cells x) (by rw [cells_length]; omega), cells_length]
    congr 2; omega
 rw [ht, hd]
theorem cut_items {w1 : World} {L : List O} (h : Row w1 49 6 v L.length (L.flatMap O.cells)) (p z : Int) (hp : 0 ≤ p) (hz : 0 ≤ z) (hpz : p + z ≤ L.length) :
 ∃ A c', (∀ W, (Instr.slice 44 v (some (.int .i64 p)) (some (.int .i64 (p + z))) none).run Tryz.prog W = .ok (.slice A z.toNat c') W) ∧
  ((A = none ∧ z = 0 ∧ c' = 0 ∧ p = 0) ∨ ∃ ad, A = some ad ∧ ∀ W, Chg NoB w1 W → ∀ j u, (((L.drop p.toNat).take z.toNat).flatMap O.cells)[j]? = some u → W.cell? (ad.add j) = some u) := by
 rcases h.2 with ⟨rfl, hn⟩ | ⟨g, cap, cur, fz, rfl, hcur, hfz, hnc, hcm, hcs, htk⟩
 · have hp0 : p = 0 := by omega
   have hz0 : z = 0 := by omega
   subst hp0; subst hz0; refine ⟨none, 0, fun W => ?_, .inl ⟨rfl, rfl, rfl, rfl⟩⟩; rw [run_slice_lh (w := W) 44 none 0 0 (by rw [Tryz.elemObjs]; exact Tryz.underObjs) .i64 .i64 0 (0 + 0) (by omega) (by omega) (by omega), Tryz.elemObjs, sizeOf_obj]; simp [sliced]
 · refine ⟨if cap = p.toNat then some ⟨g, 0, none⟩ else some ((⟨g, 0, none⟩ : Addr).add (p.toNat * 6)), cap - p.toNat, fun W => ?_, .inr ⟨if cap = p.toNat then ⟨g, 0, none⟩ else (⟨g, 0, none⟩ : Addr).add (p.toNat * 6), by split <;> rfl, fun W hW j u hj => ?_⟩⟩
   · rw [run_slice_lh (w := W) 44 (some ⟨g, 0, none⟩) _ cap (by rw [Tryz.elemObjs]; exact Tryz.underObjs) .i64 .i64 p (p + z) hp (by omega) (by omega), Tryz.elemObjs, sizeOf_obj]; simp only [Result.andThen_ok, sliced, Option.map_some]; rw [show (p + z).toNat - p.toNat = z.toNat by omega]
   · have hc' := hW.blk hcur id; rw [flat_drop_take, List.getElem?_take] at hj; split at hj
     · rename_i hjz
       rw [List.getElem?_drop] at hj
       have hlt : p.toNat * 6 + j < L.length * 6 := by omega
       rw [if_neg (by omega), add_add, cells_of hc', ← Array.getElem?_toList]
       have : cur.toList[p.toNat * 6 + j]? = (cur.toList.take (L.length * 6))[p.toNat * 6 + j]? := by rw [List.getElem?_take, if_pos hlt]
       rw [this, htk]; exact hj
     · simp at hj
theorem cells_one (o : O) : ∀ u ∈ o.cells, u.oneCell' = true := by
 intro u hu; simp only [O.cells, List.mem_cons, List.not_mem_nil, or_false] at hu
 rcases hu with rfl | rfl | rfl | rfl | rfl | rfl <;> rfl
theorem flat_one (L : List O) : ∀ u ∈ L.flatMap O.cells, u.oneCell' = true := by
 intro u hu; obtain ⟨o, _, ho⟩ := List.mem_flatMap.1 hu; exact cells_one o u ho
def itemsH (L : List C) (o : O) : List O × Int :=
 if findE L o ≠ 0 then ([], findE L o) else match L[o.n.toNat]? with
  | none => ([], 0)
  | some c => if c.text then ([], 6) else ((c.items.drop (atOf o).toNat).take (lenOf c o).toNat, 0)
set_option maxRecDepth 100000 in
set_option maxHeartbeats 1000000 in
theorem items_any (h : HS) (o : O) (w : World) (H : HeapRep w h) :
 Calls Tryz.prog 56 #[ptr h.hp, o.val] w fun e w' => ∃ v, e = .returned (.tuple #[v, .int .i64 (itemsH h.l o).2]) ∧ Chg NoB w w' ∧
  w'.ownsRow w.heap.size 49 6 v (itemsH h.l o).1.length ((itemsH h.l o).1.flatMap O.cells) := by
 obtain ⟨hp, slv, L⟩ := h; obtain ⟨k, ex, N, a, l, s⟩ := o
 by_cases hE : findE (HS.l ⟨hp, slv, L⟩) ⟨k, ex, N, a, l, s⟩ ≠ 0
 · have hs : itemsH (HS.l ⟨hp, slv, L⟩) ⟨k, ex, N, a, l, s⟩ = ([], findE (HS.l ⟨hp, slv, L⟩) ⟨k, ex, N, a, l, s⟩) := by simp [itemsH, hE]
   rw [hs]
   have hb : (findE (HS.l ⟨hp, slv, L⟩) ⟨k, ex, N, a, l, s⟩ != 0) = true := by simpa using hE
   have FB := fun w' (H' : HeapRep w' ⟨hp, slv, L⟩) => find_bad ⟨hp, slv, L⟩ ⟨k, ex, N, a, l, s⟩ w' H' hE; generalize findE (HS.l ⟨hp, slv, L⟩) ⟨k, ex, N, a, l, s⟩ = fe at *; go_enter Tryz.func56, Tryz.ntmps56
   go_wp2_with fail
   refine (FB _ (H.pure ((Chg.refl NoB w).alloc _))).mono ?_; rintro e w1 ⟨rfl, hb1⟩; have hB0 := hb1.blk (blk_new w _) id; have H1 := (H.pure ((Chg.refl NoB w).alloc _)).pure hb1; have XW := ((Chg.refl NoB w).alloc _).pure hb1; clear hb1; clear FB; go_wp2
   go_ret2
   refine ⟨_, rfl, ?_, World.ownsRow_nil _ _ _ _⟩
   (repeat' (first | with_reducible assumption | with_reducible refine Chg.alloc ?_ _ | with_reducible refine Chg.drew ?_ | with_reducible refine Chg.drewN ?_ _ | with_reducible refine Chg.setCell ?_ (Or.inr ?_) _ | exact Nat.le_refl _ | exact Nat.le_add_right _ _ | (simp; done) | (simp; omega)))
 simp only [ne_eq, Decidable.not_not] at hE; obtain ⟨hn, hok, hx, hc, hk, hat, hle, hsz, -⟩ := findE_good H hE; have hsm := cell_small H hx; have FG := fun w' (H' : HeapRep w' ⟨hp, slv, L⟩) => find_good ⟨hp, slv, L⟩ ⟨k, ex, N, a, l, s⟩ w' H' hE hn; simp only at FG hn hc hx hat hle hsz hsm
 have hs : itemsH (HS.l ⟨hp, slv, L⟩) ⟨k, ex, N, a, l, s⟩ = (if L[N.toNat].c.text then ([], 6) else ((L[N.toNat].c.items.drop (atOf ⟨k, ex, N, a, l, s⟩).toNat).take (lenOf L[N.toNat].c ⟨k, ex, N, a, l, s⟩).toNat, 0)) := by
  simp [itemsH, hE, hc]
 rw [hs]; clear hs hE hc hok hk; generalize lenOf L[N.toNat].c ⟨k, ex, N, a, l, s⟩ = z at *; generalize L[N.toNat] = x at *; generalize atOf ⟨k, ex, N, a, l, s⟩ = p at *
 by_cases ht : x.c.text = true
 · rw [if_pos ht]
   have hval : x.val = .agg #[.pointer none, ptr x.p] := by simp [PC.val, PC.ptrs, ht]
   rw [hval] at FG; clear hval; go_enter Tryz.func56, Tryz.ntmps56
   go_wp2_with fail
   refine (FG _ (H.pure ((Chg.refl NoB w).alloc _))).mono ?_; rintro e w1 ⟨rfl, hb1⟩; have hB0 := hb1.blk (blk_new w _) id; have H1 := (H.pure ((Chg.refl NoB w).alloc _)).pure hb1; have XW := ((Chg.refl NoB w).alloc _).pure hb1; clear hb1; clear FG; go_wp2
   go_ret2
   refine ⟨_, rfl, ?_, World.ownsRow_nil _ _ _ _⟩
   (repeat' (first | with_reducible assumption | with_reducible refine Chg.alloc ?_ _ | with_reducible refine Chg.drew ?_ | with_reducible refine Chg.drewN ?_ _ | with_reducible refine Chg.setCell ?_ (Or.inr ?_) _ | exact Nat.le_refl _ | exact Nat.le_add_right _ _ | (simp; done) | (simp; omega)))
 · have htf : x.c.text = false := by simpa using ht
   rw [if_neg ht]
   have hval : x.val = .agg #[ptr x.p, .pointer none] := by simp [PC.val, PC.ptrs, htf]
   rw [hval] at FG; clear hval; have hA : IntKind.i64.wrap (p + z) = p + z := IntWalk.i64_in _ (by omega)
   have hsz2 : p + z ≤ (x.c.items.length : Int) := by simpa [C.size, htf] using hsz
   obtain ⟨b, hb⟩ : ∃ b : List O, b = (x.c.items.drop p.toNat).take z.toNat := ⟨_, rfl⟩
   have hbl : b.length = z.toNat := by rw [hb]; simp; omega
   rw [← hb]; go_enter Tryz.func56, Tryz.ntmps56
   go_wp2_with fail
   refine (FG _ (H.pure ((Chg.refl NoB w).alloc _))).mono ?_; rintro e w1 ⟨rfl, hb1⟩; have hB0 := hb1.blk (blk_new w _) id; have H1 := (H.pure ((Chg.refl NoB w).alloc _)).pure hb1; have XW := ((Chg.refl NoB w).alloc _).pure hb1; clear hb1; have hok1 := H1.cell x hx; have hhd := hok1.head.2 htf; obtain ⟨A, c', e1, e2⟩ := cut_items (hok1.itemRow htf) p z hat hle hsz2; rw [← hb] at e2; have HBL := Hid.mk' hbl; clear FG hb hbl; have Rx := Chg.cells (S := NoB) hhd id; have lx := blk_lt hhd; have X := Chg.refl NoB w1; obtain ⟨i0, hi, hz0, hz1, hz2⟩ := info_parts Tryz.infoObj; have wsz : w.heap.size ≤ w1.heap.size := XW.size
   rcases e2 with ⟨rfl, rfl, rfl, rfl⟩ | ⟨ad, rfl, hnews⟩
   · simp only [Int.add_zero, Int.toNat_zero] at e1 hA
     go_wp2_with (at_builtin; refine wpList_append_own_none rfl _ _ 44 rfl w.heap.size 49 i0 6 Tryz.underObjs hi (.slice none 0 0) 0 [] rfl (World.ownsRow_nil _ _ _ _) rfl ?_)
     go_ret2
     refine ⟨_, rfl, ?_, ?_⟩
     · (repeat' (first | with_reducible assumption | with_reducible refine Chg.alloc ?_ _ | with_reducible refine Chg.drew ?_ | with_reducible refine Chg.drewN ?_ _ | with_reducible refine Chg.setCell ?_ (Or.inr ?_) _ | exact Nat.le_refl _ | exact Nat.le_add_right _ _ | (simp; done) | (simp; omega)))
     · have : b = [] := List.eq_nil_of_length_eq_zero (by rw [HBL.out]; rfl); subst this; exact World.ownsRow_nil _ _ _ _
   · have HN := Hid.mk' hnews; clear hnews
     go_wp2_with (at_builtin; refine wpList_append_own _ rfl _ _ 44 rfl w.heap.size 49 i0 O.nil.val 6 56 Tryz.underObjs hi hz0 hz1 hz2 rfl (by decide) (.slice none 0 0) 0 [] rfl (World.ownsRow_nil _ _ _ _) ad z.toNat c' (b.flatMap O.cells) rfl (by rw [flat_length O.cells 6 cells_length, HBL.out]) (fun j u hj => HN.out _ (X.alloc _) j u hj) (flat_one b) ?_ ?_ ?_ ?_; (unfold maxLen; omega); omega; (simp; omega); intro v' w2 hown hgr _)
     have XG : Chg NoB w w2 := Chg.grown (XW.alloc _) hgr (fun k hk => by simp [Value.ownBlock] at hk)
     go_ret2
     refine ⟨_, rfl, XG, ?_⟩; rw [HBL.out]
     simpa using hown
theorem owns_base {B' : Nat} {size : Nat} (h : w.ownsRow B T size v n xs) (hB : B' ≤ B) : w.ownsRow B' T size v n xs := by
 refine ⟨h.1, ?_⟩
 rcases h.2 with hn | ⟨g, cap, cur, h1, h2, rest⟩
 · exact .inl hn
 · exact .inr ⟨g, cap, cur, h1, Nat.le_trans hB h2, rest⟩
theorem owns_chgB {S : Nat → Prop} {size : Nat} (h : w.ownsRow B T size v n xs) (hc : Chg S w w') (hS : ∀ b ∈ v.ownBlock.toList, ¬ S b) : w'.ownsRow B T size v n xs := by
 refine ⟨h.1, ?_⟩
 rcases h.2 with hn | ⟨g, cap, cur, rfl, h1, h2, rest⟩
 · exact .inl hn
 · exact .inr ⟨g, cap, cur, rfl, h1, hc.blk h2 (hS g (by simp [Value.ownBlock])), rest⟩
theorem owns_ge {size : Nat} (h : w.ownsRow B T size v n xs) : ∀ b ∈ v.ownBlock.toList, B ≤ b ∧ b < w.heap.size := by
 intro b hb; have := h.lt b (by simpa using hb); exact this
def BecInv (w : World) (G : List C) (k : Nat) (v : Value) (wr : World) : Prop :=
 ∃ M : List PC, M.map PC.c = G.take k ∧ M.length = k ∧ wr.ownsRow w.heap.size 121 2 v k (M.flatMap PC.ptrs) ∧ (∀ x ∈ M, x.ok wr) ∧
  (v.ownBlock.toList ++ M.flatMap PC.foot).Nodup ∧ (∀ b ∈ M.flatMap PC.foot, w.heap.size ≤ b) ∧ Chg NoB w wr
theorem BecInv.start (w : World) (G : List C) : BecInv w G 0 (.slice none 0 0) w :=
 ⟨[], by simp, rfl, World.ownsRow_nil _ _ _ _, by simp, by simp [Value.ownBlock], by simp, Chg.refl _ _⟩
theorem BecInv.step {wr : World} {G : List C} {k : Nat} {v' : Value} {M : List PC} {x : PC}
 (h1 : M.map PC.c = G.take k) (h2 : M.length = k) (hk : k < G.length) (h3 : wr.ownsRow w.heap.size 121 2 v k (M.flatMap PC.ptrs)) (h4 : ∀ x ∈ M, x.ok wr)
 (h5 : (v.ownBlock.toList ++ M.flatMap PC.foot).Nodup) (h6 : ∀ b ∈ M.flatMap PC.foot, w.heap.size ≤ b) (h7 : Chg NoB w wr)
 (c : Chg (· ∈ v.ownBlock.toList) wr w') (hx : x.ok w') (hxc : x.c = G[k]) (hxf : ∀ b ∈ x.foot, wr.heap.size ≤ b) (hxn : x.foot.Nodup)
 (hown : w'.ownsRow w.heap.size 121 2 v' (k + 1) (M.flatMap PC.ptrs ++ x.ptrs)) (hv : v'.ownBlock = v.ownBlock ∨ ∃ n, v'.ownBlock = some n ∧ wr.heap.size ≤ n ∧ n ∉ x.foot) : BecInv w G (k + 1) v' w' := by
 have hlt : ∀ y ∈ M, ∀ b ∈ y.foot, b < wr.heap.size := fun y hy b hb => (h4 y hy).lt b hb; have hvl := owns_ge h3; simp only [List.nodup_append, List.mem_flatMap] at h5; obtain ⟨n1, n2, n3⟩ := h5; refine ⟨M ++ [x], ?_, by simp [h2], by simpa using hown, ?_, ?_, ?_, (h7.trans' c (fun i hi e => by have := (hvl i e).1; omega))⟩
 · rw [List.map_append, h1, List.take_add_one, List.getElem?_eq_getElem hk, ← hxc]; rfl
 · intro y hy
   rcases List.mem_append.1 hy with hy | hy
   · exact (h4 y hy).chg c (fun b hb e => n3 b e b ⟨y, hy, hb⟩ rfl)
   · simp only [List.mem_singleton] at hy; subst hy; exact hx
 · simp only [List.flatMap_append, List.flatMap_cons, List.flatMap_nil, List.append_nil, List.nodup_append, List.mem_append, List.mem_flatMap]; refine ⟨?_, ⟨n2, hxn, ?_⟩, ?_⟩
   · rcases hv with hv | ⟨n, hv, _⟩
     · rw [hv]; exact n1
     · rw [hv]; simp
   · rintro b ⟨y, hy, hb⟩ b' hb' rfl; have := hlt y hy b hb; have := hxf b hb'; omega
   · rintro b hb b' hb' rfl
     rcases hv with hv | ⟨n, hv, hn1, hn2⟩
     · rw [hv] at hb
       rcases hb' with ⟨y, hy, hb'⟩ | hb'
       · exact n3 b hb b ⟨y, hy, hb'⟩ rfl
       · have := (hvl b hb).2; have := hxf b hb'; omega
     · rw [hv] at hb; simp only [Option.toList, List.mem_singleton] at hb; subst hb
       rcases hb' with ⟨y, hy, hb'⟩ | hb'
       · have := hlt y hy b hb'; omega
       · exact hn2 hb'
 · intro b hb; simp only [List.flatMap_append, List.flatMap_cons, List.flatMap_nil, List.append_nil, List.mem_append] at hb
   rcases hb with hb | hb
   · exact h6 b hb
   · have := hxf b hb; have := h7.size; omega
theorem Tryz.infoByte : (Tryz.prog.info? 5).map (fun i => (i.zero, i.size, i.bytes)) = some (some (.int .u8 0), 1, 1) := by kernel_rfl
theorem vu8_one (l : List UInt8) : ∀ u ∈ l.map vu8, u.oneCell' = true := by
 intro u hu; obtain ⟨b, _, rfl⟩ := List.mem_map.1 hu; rfl
theorem cells_newS (w : World) (a : Addr) (v : Value) (cs : List Value) (t : TypeId) : ∀ j u, cs[j]? = some u → ((w.setCell a v).alloc (.cells cs.toArray t)).cell? ((⟨w.heap.size, 0, none⟩ : Addr).add j) = some u := by
 have := cells_new (w.setCell a v) cs t; rw [World.size_setCell] at this; exact this
theorem cells_new2 (w : World) (o o' : Obj) (cs : List Value) (t : TypeId) : ∀ j u, cs[j]? = some u → (((w.alloc o).alloc o').alloc (.cells cs.toArray t)).cell? ((⟨w.heap.size + 1 + 1, 0, none⟩ : Addr).add j) = some u := by
 have := cells_new ((w.alloc o).alloc o') cs t
 simpa using this
theorem Row.of_nil {size : Nat} (h : Row w T size (.slice none 0 0) n xs) : Row w' T size (.slice none 0 0) n xs := by
 refine ⟨h.1, ?_⟩
 rcases h.2 with h | ⟨g, cap, cur, fz, e, _⟩
 · exact .inl h
 · simp at e
theorem Row.src {w1 : World} {size : Nat} (h : Row w1 T size v n xs) :
 (v = .slice none 0 0 ∧ n = 0) ∨ ∃ ad cap, v = .slice (some ad) n cap ∧ ∀ W, Chg NoB w1 W → ∀ j u, xs[j]? = some u → W.cell? (ad.add j) = some u := by
 rcases h.2 with ⟨rfl, hn⟩ | ⟨g, cap, cur, fz, rfl, hcur, hfz, hnc, hcm, hcs, htk⟩
 · exact .inl ⟨rfl, hn⟩
 · refine .inr ⟨_, _, rfl, fun W hW j u hj => ?_⟩
   have hlt : j < n * size := by rw [← h.1]; exact (List.getElem?_eq_some_iff.1 hj).1
   rw [add_one, cells_of (hW.blk hcur id), ← Array.getElem?_toList]
   have : cur.toList[j]? = (cur.toList.take (n * size))[j]? := by rw [List.getElem?_take, if_pos hlt]
   rw [this, htk]; exact hj
set_option maxRecDepth 100000 in
set_option maxHeartbeats 4000000 in
theorem become_any (hp : Nat) (g : HS) (w : World) (H : HeapRep w g) (x0 x1 : Value) (hh : w.heap[hp]? = some (.cells #[x0, x1] 84 (0, 0))) (hhg : hp ∉ g.foot) :
 Calls Tryz.prog 37 #[ptr hp, ptr g.hp] w fun e w' => e = .returned (.tuple #[]) ∧
  ∃ h' : HS, h'.hp = hp ∧ h'.l = g.l ∧ HeapRep w' h' ∧ HeapRep w' g ∧ Chg (· = hp) w w' ∧ ∀ b ∈ h'.foot, b = hp ∨ w.heap.size ≤ b := by
 obtain ⟨gp, slv, L⟩ := g; obtain ⟨sa, cap, rfl, -⟩ := H.shape; have hgl := blk_lt H.head; have hhl := blk_lt hh; have hm := H.most; simp only at hm; have R0 := cells_of H.head; go_enter Tryz.func37, Tryz.ntmps37
 go_wp2
 go_loopw [4, 20] (fun v i wr => ∃ k : Nat, k ≤ L.length ∧ i = .int .i64 k ∧ BecInv w (L.map PC.c) k v wr) (fun _ i _ => L.length - (intOf i).toNat)
 case atStart => exact ⟨0, Nat.zero_le _, rfl, BecInv.start _ _⟩
 case round =>
  obtain ⟨k, hk, rfl, hB⟩ := hrel; obtain ⟨M, m1, m2, m3, m4, m5, m6, X⟩ := hB; have G1 := H.pure X; clear R0
  by_cases hlt : k < L.length
  · obtain ⟨gb, cap', cur, fz, u, v', hsl, hcur, hu, hv, huv, hgb⟩ := G1.at' hlt; simp only [Value.slice.injEq] at hsl; obtain ⟨rfl, -, rfl⟩ := hsl; have hok := G1.cell _ (List.getElem_mem hlt)
    have hGk : (L.map PC.c)[k]? = some L[k].c := by simp [hlt]
    have hkG : k < (L.map PC.c).length := by simpa using hlt
    have hGk' : L[k].c = (L.map PC.c)[k] := by simp
    have ST := Hid.mk' (fun (w' : World) (v' : Value) (x : PC) => BecInv.step (w' := w') (v' := v') (x := x) m1 m2 hkG m3 m4 m5 m6 X); have HG := Hid.mk' hGk'; have hvl := owns_ge m3; have hsm := cell_small G1 (List.getElem_mem hlt); have HM := Hid.mk' m3; have wsz := X.size; clear hGk hGk' m1 m3 m4 m5 m6; have HU := Hid.mk' huv; clear huv; generalize hxe : L[k] = x at *; clear hxe; have Rg := Chg.cells (S := NoB) hcur id; have lg := blk_lt hcur; have X := Chg.refl NoB wr
    by_cases ht : x.c.text = true
    · have hp2 := HU.out; simp only [PC.ptrs, ht, if_true, List.cons.injEq, Value.pointer.injEq] at hp2; obtain ⟨rfl, rfl, -⟩ := hp2; have hhd := hok.head.1 ht; have hrow := hok.textRow ht; have Rx := Chg.cells (S := NoB) hhd id; have lx := blk_lt hhd
      have hsm2 : x.c.bytes.length ≤ 40000 := by simpa [C.size, ht] using hsm
      rcases hrow.src with ⟨hsl, hn0⟩ | ⟨ad, c1, hsl, hsrc⟩
      · rw [hsl] at hhd Rx; have HSL := Hid.mk' hsl; have HN0 := Hid.mk' hn0; clear hsl hn0; obtain ⟨i5, hi5, hz50, hz51, hz52⟩ := info_parts Tryz.infoByte; obtain ⟨i0, hi, hz0, hz1, hz2⟩ := info_parts Tryz.infoCell
        go_wp2_with (first
         | (at_builtin; refine wpList_append_own_none rfl (.const (.slice none 0 0)) (.tmp 32) 59 rfl wr.heap.size 5 i5 1 Tryz.underBytes hi5 (.slice none 0 0) 0 [] rfl (World.ownsRow_nil _ _ _ _) rfl ?_)
         | (at_builtin; refine wpList_append_own_at _ rfl (.tmp 35) (.tmp 37) 82 rfl w.heap.size 121 i0 (.agg #[.pointer none, .pointer none]) 2 16 Tryz.underCells hi hz0 hz1 hz2 rfl (by decide) u4 k (M.flatMap PC.ptrs) rfl (owns_chgB HM.out (((X.alloc _).alloc _).alloc _) (fun _ _ e => e)) _ 1 1 [.pointer none, ptr (wr.heap.size + 1)] rfl rfl (fun j u hj => cells_new2 _ _ _ [.pointer none, ptr (wr.heap.size + 1)] 121 j u hj) (one2 _ _) ?_ ?_ ?_ ?_; (unfold maxLen; omega); omega; (simp <;> omega); intro v5 w5 hown5 hgr5 _ hob5))
        have C5a : Chg (· ∈ u4.ownBlock.toList) (((wr.alloc (.cells #[.pointer none, ptr x.p] 121)).alloc (.cells #[.bool x.c.locked, .slice none 0 0] 125)).alloc (.cells #[.pointer none, ptr (wr.heap.size + 1)] 121)) w5 := Chg.grown (Chg.refl _ _) hgr5 (fun n hn => .inl (by simp [hn])); have C5 : Chg (· ∈ u4.ownBlock.toList) wr w5 := ((((Chg.refl _ wr).alloc _).alloc _).alloc _).trans C5a; have hq5 := C5a.blk (blk_alloc (blk_new1 wr _ _) _) (fun hb => by have := (hvl _ hb).2; omega)
        have HX : PC.ok w5 ⟨wr.heap.size + 1, .slice none 0 0, x.c⟩ := by
         unfold PC.ok; simp only [ht, if_true]; have hok2 := hok; unfold PC.ok at hok2; simp only [ht, if_true] at hok2; refine ⟨hq5, ?_, hok2.2.2⟩; have hr := hok2.2.1; rw [HSL.out] at hr; exact hr.of_nil
        go_roundw
        case rel =>
         refine ⟨k + 1, by omega, by go_num, ST.out w5 v5 ⟨wr.heap.size + 1, .slice none 0 0, x.c⟩ C5 HX HG.out ?_ ?_ ?_ ?_⟩
         · intro b hb; simp only [PC.foot, Value.ownBlock, Option.toList, List.mem_cons, List.not_mem_nil, or_false] at hb; omega
         · simp [PC.foot, Value.ownBlock]
         · have e : PC.ptrs ⟨wr.heap.size + 1, .slice none 0 0, x.c⟩ = [.pointer none, ptr (wr.heap.size + 1)] := by simp [PC.ptrs, ht]
           rw [e]; exact hown5
         · rcases hob5 with h | h
           · exact .inl h
           · refine .inr ⟨_, h, by simp; omega, fun hb => ?_⟩; simp only [PC.foot, Value.ownBlock, Option.toList, List.mem_cons, List.not_mem_nil, or_false, World.size_alloc] at hb; omega
        case measure => simp [intOf]; omega
      · rw [hsl] at hhd Rx; have HS1 := Hid.mk' hsrc; clear hsrc hsl; obtain ⟨i5, hi5, hz50, hz51, hz52⟩ := info_parts Tryz.infoByte; obtain ⟨i0, hi, hz0, hz1, hz2⟩ := info_parts Tryz.infoCell
        go_wp2_with (first
         | (at_builtin; refine wpList_append_own_at _ rfl (.const (.slice none 0 0)) (.tmp 32) 59 rfl wr.heap.size 5 i5 (.int .u8 0) 1 1 Tryz.underBytes hi5 hz50 hz51 hz52 rfl (by decide) (.slice none 0 0) 0 [] rfl (World.ownsRow_nil _ _ _ _) ad x.c.bytes.length c1 (x.c.bytes.map vu8) rfl (by simp) (fun j u hj => HS1.out _ ((X.alloc _).alloc _) j u hj) (vu8_one _) ?_ ?_ ?_ ?_; (unfold maxLen; omega); omega; (simp; omega); intro v2 w3 hown2 hgr2 _ hob2; have C3 : Chg NoB wr w3 := Chg.grown ((X.alloc _).alloc _) hgr2 (fun k hk => by simp [Value.ownBlock] at hk); have hq7 := (Chg.grown (Chg.refl NoB _) hgr2 (fun k hk => by simp [Value.ownBlock] at hk)).blk (blk_new1 wr _ _) id; obtain ⟨a2, cap2, rfl, _⟩ := (Row.of_owns (owns_base hown2 (Nat.zero_le _))).shape; have R7 := cells_of hq7; have Z7 := free_of hq7; have l7 := blk_lt hq7; have HW2 := Hid.mk' hown2; have HB2 := Hid.mk' hob2; clear hown2 hob2)
         | (at_builtin; refine wpList_append_own_at _ rfl (.tmp 35) (.tmp 37) 82 rfl w.heap.size 121 i0 (.agg #[.pointer none, .pointer none]) 2 16 Tryz.underCells hi hz0 hz1 hz2 rfl (by decide) u4 k (M.flatMap PC.ptrs) rfl (owns_chgB HM.out (Chg.alloc (Chg.setCell C3 (.inr (Nat.le_add_right _ _)) _) _) (fun _ _ e => e)) _ 1 1 [.pointer none, ptr (wr.heap.size + 1)] rfl rfl (fun j u hj => cells_newS _ _ _ [.pointer none, ptr (wr.heap.size + 1)] 121 j u hj) (one2 _ _) ?_ ?_ ?_ ?_; (unfold maxLen; omega); omega; (simp <;> omega); intro v5 w5 hown5 hgr5 _ hob5))
        have hown2 := HW2.out; simp only [Nat.zero_add, List.nil_append] at hown2
        have hv2b : ∀ b ∈ (Value.slice a2 x.c.bytes.length cap2).ownBlock.toList, b = wr.heap.size + 1 + 1 := fun b hb => by
         have := HB2.out; simp only [Nat.zero_add] at this
         rcases this with this | this
         · rw [this] at hb; simp [Value.ownBlock] at hb
         · rw [this] at hb; simp at hb; omega
        have C5a : Chg (· ∈ u4.ownBlock.toList) ((w3.setCell ⟨wr.heap.size + 1, 1, none⟩ (.slice a2 x.c.bytes.length cap2)).alloc (.cells #[.pointer none, ptr (wr.heap.size + 1)] 121)) w5 := Chg.grown (Chg.refl _ _) hgr5 (fun n hn => .inl (by simp [hn])); have C5 : Chg (· ∈ u4.ownBlock.toList) wr w5 := (((C3.mono (fun _ _ e => e.elim)).setCell (p := ⟨wr.heap.size + 1, 1, none⟩) (.inr (Nat.le_add_right _ _)) _).alloc _).trans C5a; have hq5 := C5a.blk (blk_alloc (blk_set hq7 1 (.slice a2 x.c.bytes.length cap2)) _) (fun hb => by have := (hvl _ hb).2; omega); simp only [List.setIfInBounds_toArray, List.set_cons_zero, List.set_cons_succ] at hq5; have hrow5 := (Row.of_owns (owns_base hown2 (Nat.zero_le _))).chg ((Chg.refl (fun b => b = wr.heap.size + 1) w3).one (p := ⟨wr.heap.size + 1, 1, none⟩) rfl (.slice a2 x.c.bytes.length cap2)) (fun b hb e => by have := hv2b b hb; omega); have hrow6 := (hrow5.chg ((Chg.refl NoB _).alloc (.cells #[.pointer none, ptr (wr.heap.size + 1)] 121)) (fun _ _ e => e)).chg C5a (fun b hb e => by have := hv2b b hb; have := (hvl _ e).2; omega); have hsz5 := C3.size
        have HX : PC.ok w5 ⟨wr.heap.size + 1, .slice a2 x.c.bytes.length cap2, x.c⟩ := by
         unfold PC.ok; simp only [ht, if_true]; have hok2 := hok; unfold PC.ok at hok2; simp only [ht, if_true] at hok2; exact ⟨hq5, hrow6, hok2.2.2⟩
        go_roundw
        case rel =>
         refine ⟨k + 1, by omega, by go_num, ST.out w5 v5 ⟨wr.heap.size + 1, .slice a2 x.c.bytes.length cap2, x.c⟩ C5 HX HG.out ?_ ?_ ?_ ?_⟩
         · intro b hb; simp only [PC.foot, List.mem_cons] at hb
           rcases hb with rfl | hb
           · omega
           · have := hv2b b hb; omega
         · simp only [PC.foot, List.nodup_cons]; refine ⟨fun hb => by have := hv2b _ hb; omega, ?_⟩
           cases (Value.slice a2 x.c.bytes.length cap2).ownBlock <;> simp
         · have e : PC.ptrs ⟨wr.heap.size + 1, .slice a2 x.c.bytes.length cap2, x.c⟩ = [.pointer none, ptr (wr.heap.size + 1)] := by simp [PC.ptrs, ht]
           rw [e]; exact hown5
         · rcases hob5 with h | h
           · exact .inl h
           · refine .inr ⟨_, h, by simp; omega, fun hb => ?_⟩; simp only [PC.foot, List.mem_cons, World.size_alloc, World.size_setCell] at hb
             rcases hb with hb | hb
             · omega
             · have := hv2b _ hb; omega
        case measure => simp [intOf]; omega
    · have htf : x.c.text = false := by simpa using ht
      have hp2 := HU.out; simp only [PC.ptrs, htf, if_false, Bool.false_eq_true, List.cons.injEq, Value.pointer.injEq] at hp2; obtain ⟨rfl, rfl, -⟩ := hp2; have hhd := hok.head.2 htf; have hrow := hok.itemRow htf; have Rx := Chg.cells (S := NoB) hhd id; have lx := blk_lt hhd
      have hsm2 : x.c.items.length ≤ 40000 := by simpa [C.size, htf] using hsm
      rcases hrow.src with ⟨hsl, hn0⟩ | ⟨ad, c1, hsl, hsrc⟩
      · rw [hsl] at hhd Rx; have HSL := Hid.mk' hsl; have HN0 := Hid.mk' hn0; clear hsl hn0; obtain ⟨i5, hi5, hz50, hz51, hz52⟩ := info_parts Tryz.infoObj; obtain ⟨i0, hi, hz0, hz1, hz2⟩ := info_parts Tryz.infoCell
        go_wp2_with (first
         | (at_builtin; refine wpList_append_own_none rfl (.const (.slice none 0 0)) (.tmp 44) 44 rfl wr.heap.size 49 i5 6 Tryz.underObjs hi5 (.slice none 0 0) 0 [] rfl (World.ownsRow_nil _ _ _ _) rfl ?_)
         | (at_builtin; refine wpList_append_own_at _ rfl (.tmp 47) (.tmp 49) 82 rfl w.heap.size 121 i0 (.agg #[.pointer none, .pointer none]) 2 16 Tryz.underCells hi hz0 hz1 hz2 rfl (by decide) u4 k (M.flatMap PC.ptrs) rfl (owns_chgB HM.out (((X.alloc _).alloc _).alloc _) (fun _ _ e => e)) _ 1 1 [ptr (wr.heap.size + 1), .pointer none] rfl rfl (fun j u hj => cells_new2 _ _ _ [ptr (wr.heap.size + 1), .pointer none] 121 j u hj) (one2 _ _) ?_ ?_ ?_ ?_; (unfold maxLen; omega); omega; (simp <;> omega); intro v5 w5 hown5 hgr5 _ hob5))
        have C5a : Chg (· ∈ u4.ownBlock.toList) (((wr.alloc (.cells #[ptr x.p, .pointer none] 121)).alloc (.cells #[.bool x.c.locked, .bool x.c.dict, .slice none 0 0] 127)).alloc (.cells #[ptr (wr.heap.size + 1), .pointer none] 121)) w5 := Chg.grown (Chg.refl _ _) hgr5 (fun n hn => .inl (by simp [hn])); have C5 : Chg (· ∈ u4.ownBlock.toList) wr w5 := ((((Chg.refl _ wr).alloc _).alloc _).alloc _).trans C5a; have hq5 := C5a.blk (blk_alloc (blk_new1 wr _ _) _) (fun hb => by have := (hvl _ hb).2; omega)
        have HX : PC.ok w5 ⟨wr.heap.size + 1, .slice none 0 0, x.c⟩ := by
         unfold PC.ok; simp only [htf, if_false, Bool.false_eq_true]; have hok2 := hok; unfold PC.ok at hok2; simp only [htf, if_false, Bool.false_eq_true] at hok2; refine ⟨hq5, ?_, hok2.2.2⟩; have hr := hok2.2.1; rw [HSL.out] at hr; exact hr.of_nil
        go_roundw
        case rel =>
         refine ⟨k + 1, by omega, by go_num, ST.out w5 v5 ⟨wr.heap.size + 1, .slice none 0 0, x.c⟩ C5 HX HG.out ?_ ?_ ?_ ?_⟩
         · intro b hb; simp only [PC.foot, Value.ownBlock, Option.toList, List.mem_cons, List.not_mem_nil, or_false] at hb; omega
         · simp [PC.foot, Value.ownBlock]
         · have e : PC.ptrs ⟨wr.heap.size + 1, .slice none 0 0, x.c⟩ = [ptr (wr.heap.size + 1), .pointer none] := by simp [PC.ptrs, htf]
           rw [e]; exact hown5
         · rcases hob5 with h | h
           · exact .inl h
           · refine .inr ⟨_, h, by simp; omega, fun hb => ?_⟩; simp only [PC.foot, Value.ownBlock, Option.toList, List.mem_cons, List.not_mem_nil, or_false, World.size_alloc] at hb; omega
        case measure => simp [intOf]; omega
      · rw [hsl] at hhd Rx; have HS1 := Hid.mk' hsrc; clear hsrc hsl; obtain ⟨i5, hi5, hz50, hz51, hz52⟩ := info_parts Tryz.infoObj; obtain ⟨i0, hi, hz0, hz1, hz2⟩ := info_parts Tryz.infoCell
        go_wp2_with (first
         | (at_builtin; refine wpList_append_own_at _ rfl (.const (.slice none 0 0)) (.tmp 44) 44 rfl wr.heap.size 49 i5 O.nil.val 6 56 Tryz.underObjs hi5 hz50 hz51 hz52 rfl (by decide) (.slice none 0 0) 0 [] rfl (World.ownsRow_nil _ _ _ _) ad x.c.items.length c1 (x.c.items.flatMap O.cells) rfl (flat_length O.cells 6 cells_length _) (fun j u hj => HS1.out _ ((X.alloc _).alloc _) j u hj) (flat_one _) ?_ ?_ ?_ ?_; (unfold maxLen; omega); omega; (simp; omega); intro v2 w3 hown2 hgr2 _ hob2; have C3 : Chg NoB wr w3 := Chg.grown ((X.alloc _).alloc _) hgr2 (fun k hk => by simp [Value.ownBlock] at hk); have hq7 := (Chg.grown (Chg.refl NoB _) hgr2 (fun k hk => by simp [Value.ownBlock] at hk)).blk (blk_new1 wr _ _) id; obtain ⟨a2, cap2, rfl, _⟩ := (Row.of_owns (owns_base hown2 (Nat.zero_le _))).shape; have R7 := cells_of hq7; have Z7 := free_of hq7; have l7 := blk_lt hq7; have HW2 := Hid.mk' hown2; have HB2 := Hid.mk' hob2; clear hown2 hob2)
         | (at_builtin; refine wpList_append_own_at _ rfl (.tmp 47) (.tmp 49) 82 rfl w.heap.size 121 i0 (.agg #[.pointer none, .pointer none]) 2 16 Tryz.underCells hi hz0 hz1 hz2 rfl (by decide) u4 k (M.flatMap PC.ptrs) rfl (owns_chgB HM.out (Chg.alloc (Chg.setCell C3 (.inr (Nat.le_add_right _ _)) _) _) (fun _ _ e => e)) _ 1 1 [ptr (wr.heap.size + 1), .pointer none] rfl rfl (fun j u hj => cells_newS _ _ _ [ptr (wr.heap.size + 1), .pointer none] 121 j u hj) (one2 _ _) ?_ ?_ ?_ ?_; (unfold maxLen; omega); omega; (simp <;> omega); intro v5 w5 hown5 hgr5 _ hob5))
        have hown2 := HW2.out; simp only [Nat.zero_add, List.nil_append] at hown2
        have hv2b : ∀ b ∈ (Value.slice a2 x.c.items.length cap2).ownBlock.toList, b = wr.heap.size + 1 + 1 := fun b hb => by
         have := HB2.out; simp only [Nat.zero_add] at this
         rcases this with this | this
         · rw [this] at hb; simp [Value.ownBlock] at hb
         · rw [this] at hb; simp at hb; omega
        have C5a : Chg (· ∈ u4.ownBlock.toList) ((w3.setCell ⟨wr.heap.size + 1, 2, none⟩ (.slice a2 x.c.items.length cap2)).alloc (.cells #[ptr (wr.heap.size + 1), .pointer none] 121)) w5 := Chg.grown (Chg.refl _ _) hgr5 (fun n hn => .inl (by simp [hn])); have C5 : Chg (· ∈ u4.ownBlock.toList) wr w5 := (((C3.mono (fun _ _ e => e.elim)).setCell (p := ⟨wr.heap.size + 1, 2, none⟩) (.inr (Nat.le_add_right _ _)) _).alloc _).trans C5a; have hq5 := C5a.blk (blk_alloc (blk_set hq7 2 (.slice a2 x.c.items.length cap2)) _) (fun hb => by have := (hvl _ hb).2; omega); simp only [List.setIfInBounds_toArray, List.set_cons_zero, List.set_cons_succ] at hq5; have hrow5 := (Row.of_owns (owns_base hown2 (Nat.zero_le _))).chg ((Chg.refl (fun b => b = wr.heap.size + 1) w3).one (p := ⟨wr.heap.size + 1, 2, none⟩) rfl (.slice a2 x.c.items.length cap2)) (fun b hb e => by have := hv2b b hb; omega); have hrow6 := (hrow5.chg ((Chg.refl NoB _).alloc (.cells #[ptr (wr.heap.size + 1), .pointer none] 121)) (fun _ _ e => e)).chg C5a (fun b hb e => by have := hv2b b hb; have := (hvl _ e).2; omega); have hsz5 := C3.size
        have HX : PC.ok w5 ⟨wr.heap.size + 1, .slice a2 x.c.items.length cap2, x.c⟩ := by
         unfold PC.ok; simp only [htf, if_false, Bool.false_eq_true]; have hok2 := hok; unfold PC.ok at hok2; simp only [htf, if_false, Bool.false_eq_true] at hok2; exact ⟨hq5, hrow6, hok2.2.2⟩
        go_roundw
        case rel =>
         refine ⟨k + 1, by omega, by go_num, ST.out w5 v5 ⟨wr.heap.size + 1, .slice a2 x.c.items.length cap2, x.c⟩ C5 HX HG.out ?_ ?_ ?_ ?_⟩
         · intro b hb; simp only [PC.foot, List.mem_cons] at hb
           rcases hb with rfl | hb
           · omega
           · have := hv2b b hb; omega
         · simp only [PC.foot, List.nodup_cons]; refine ⟨fun hb => by have := hv2b _ hb; omega, ?_⟩
           cases (Value.slice a2 x.c.items.length cap2).ownBlock <;> simp
         · have e : PC.ptrs ⟨wr.heap.size + 1, .slice a2 x.c.items.length cap2, x.c⟩ = [ptr (wr.heap.size + 1), .pointer none] := by simp [PC.ptrs, htf]
           rw [e]; exact hown5
         · rcases hob5 with h | h
           · exact .inl h
           · refine .inr ⟨_, h, by simp; omega, fun hb => ?_⟩; simp only [PC.foot, List.mem_cons, World.size_alloc, World.size_setCell] at hb
             rcases hb with hb | hb
             · omega
             · have := hv2b _ hb; omega
        case measure => simp [intOf]; omega
  · have hkn : k = L.length := by omega
    subst hkn; obtain ⟨a4, c4, rfl, -⟩ := (Row.of_owns (owns_base m3 (Nat.zero_le _))).shape; have hh2 := X.blk hh id; have hg2 := G1.head; simp only [HS.l] at hg2
    have m1' : M.map PC.c = L.map PC.c := by rw [m1]; exact List.take_of_length_le (by simp)
    have HM1 := Hid.mk' m1'; have HM2 := Hid.mk' m2; clear m1 m1' m2; have Rh := cells_of hh2; have Zh := free_of hh2; have Rg := cells_of hg2; have lh := blk_lt hh2; have lg := blk_lt hg2; have hst := blk_set (blk_set hh2 0 (.slice a4 L.length c4)) 1 (.int .i64 (used (L.map PC.c) : Nat)); simp only [List.setIfInBounds_toArray, List.set_cons_zero, List.set_cons_succ] at hst; have cS := ((Chg.refl (fun b => b = hp) wr).one (p := ⟨hp, 0, none⟩) rfl (.slice a4 L.length c4)).one (p := ⟨hp, 1, none⟩) rfl (.int .i64 (used (L.map PC.c) : Nat)); have hvl := owns_ge m3; go_wp2
    go_end0; refine ⟨rfl, ⟨hp, .slice a4 L.length c4, M⟩, rfl, HM1.out, ⟨?_, ?_, ?_, ?_, ?_, ?_⟩, G1.chg cS (fun b hb e => hhg (by rw [← e]; exact hb)), (X.mono (fun _ _ e => e.elim)).trans cS, ?_⟩
    · simp only [HS.l, HM1.out]; exact hst
    · have := owns_chgB m3 cS (fun b hb e => by have := (hvl b hb).1; omega); simp only [HM2.out]; exact owns_base this (Nat.zero_le _)
    · intro y hy; exact (m4 y hy).chg cS (fun b hb e => by have := m6 b (List.mem_flatMap.2 ⟨y, hy, hb⟩); omega)
    · simp only [HS.foot, List.nodup_cons]; refine ⟨fun hb => ?_, m5⟩
      rcases List.mem_append.1 hb with hb | hb
      · have := (hvl _ hb).1; omega
      · have := m6 _ hb; omega
    · simp only [HM2.out]; exact hm
    · simp only [HS.l, HM1.out]; exact H.room
    · intro b hb; simp only [HS.foot, List.mem_cons, List.mem_append] at hb
      rcases hb with rfl | hb | hb
      · exact .inl rfl
      · exact .inr (hvl b hb).1
      · exact .inr (m6 b hb)
theorem copy_any (h : HS) (w : World) (H : HeapRep w h) :
 Calls Tryz.prog 34 #[ptr h.hp] w fun e w' => e = .returned (ptr w.heap.size) ∧
  ∃ h' : HS, h'.hp = w.heap.size ∧ h'.l = h.l ∧ HeapRep w' h' ∧ Chg NoB w w' ∧ ∀ b ∈ h'.foot, w.heap.size ≤ b := by
 have hlt := H.lt; go_enter Tryz.func34, Tryz.ntmps34
 go_wp2_with fail
 refine (new_any _).mono ?_; rintro e w1 ⟨rfl, rfl⟩; go_wp2_with fail
 refine (become_any w.heap.size h _ (H.pure ((Chg.refl _ _).alloc _)) _ _ (blk_new w _) (fun hb => by have := hlt _ hb; omega)).mono ?_; rintro e w2 ⟨rfl, h', e1, e2, H2, -, X2, F2⟩; go_wp2
 go_ret; refine ⟨rfl, h', e1, e2, H2, ((Chg.refl NoB w).alloc _).trans' X2 (fun i hi e => by omega), fun b hb => ?_⟩
 rcases F2 b hb with e | e
 · omega
 · simp at e; omega
end Go.Proofs.YtpiomapnmempoaaGreat
