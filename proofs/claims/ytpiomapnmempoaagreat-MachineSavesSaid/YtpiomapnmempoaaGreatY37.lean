/- Parts of the proof: Vnr, Vns. -/
import Derived.Test.YtpiomapnmempoaaGreatY36
namespace Go.Proofs.YtpiomapnmempoaaGreat
open Go.RowKit
variable {T : TypeId}
section
section
variable {w0 w w' : World} {p : MP} {K K' : List (Nat × Obj)} {x y : MX} {F G : List Fr}
theorem row_perm {α : Type} (R0 R2 Z R K : List α) (a b : α) : (R0 ++ (R2 ++ (a :: b :: (Z ++ (R ++ K))))).Perm (R ++ (R0 ++ (R2 ++ (a :: b :: (Z ++ K))))) := by
 classical refine List.perm_iff_count.2 fun z => ?_
 simp only [List.count_append, List.count_cons]; omega
theorem MS.ownsG {R : List (Nat × Obj)} {sz n : Nat} {v : Value} {xs : List Value} (S : MS w0 p (R ++ K) x F w) (h : RowG T sz R v n xs) : w.ownsRow w0.heap.size T sz v n xs := by
 obtain ⟨qs, e, hb, NM, sv, hkp, R0, fv, R2, tv, h1, h2, S⟩ := S; exact TabAt.ownsG (S.perm (row_perm ..)) h
theorem MS.grownG {R : List (Nat × Obj)} {sz n m : Nat} {v v' : Value} {xs xs' : List Value} (S : MS w0 p (R ++ K) x F w) (h : RowG T sz R v n xs)
 (hown : w'.ownsRow w0.heap.size T sz v' (n + m) xs') (hgr : w.grownBy w' v.ownBlock) (hob : v'.ownBlock = v.ownBlock ∨ v'.ownBlock = some w.heap.size) (hm : 0 < m) :
 ∃ R', RowG T sz R' v' (n + m) xs' ∧ MS w0 p (R' ++ K) x F w' := by
 obtain ⟨qs, e, hb, NM, sv, hkp, R0, fv, R2, tv, h1, h2, S⟩ := S; obtain ⟨R', hR', S'⟩ := TabAt.grownG (S.perm (row_perm ..)) h hown hgr hob hm; exact ⟨R', hR', qs, e, hb, NM, sv, hkp, R0, fv, R2, tv, h1, h2, S'.perm (row_perm ..).symm⟩
theorem step_appM {ops : Array Oper} {o : Oper} {a : Act} {Q : Act → World → Prop} {Q' : Exit → Act → World → Prop} {E : Prop} (hgd : o.guard = none) (s z : Operand) (t : TypeId)
 (ho : o.op = .call { callee := .builtin .append, args := #[s, z], argTypes := #[t, t] })
 (T : TypeId) (i : TypeInfo) (zv : Value) (size bytes : Nat) (ht : Tryz.prog.underlying t = some (.slice T)) (hi : Tryz.prog.info? T = some i) (hz : i.zero = some zv)
 (hsize : i.size = size) (hby : i.bytes = bytes) (hzs : zv.cells.size = size) (hsz : 0 < size)
 (R K : List (Nat × Obj)) (v : Value) (n : Nat) (xs : List Value) (S : MS w0 p (R ++ K) x F w) (hR : RowG T size R v n xs) (hs : a.eval s = v)
 (ad : Addr) (m c : Nat) (news : List Value) (hx : a.eval z = .slice (some ad) m c) (hl : news.length = m * size) (hnews : ∀ j u, news[j]? = some u → w.cell? (ad.add j) = some u) (h1 : ∀ u ∈ news, u.oneCell' = true)
 (hm : 0 < m) (h63 : n + m ≤ maxLen) (hbytes : (n + m) * bytes ≤ 140737488355328)
 (h : ∀ g cap w' R', RowG T size R' (.slice (some ⟨g, 0, none⟩) (n + m) cap) (n + m) (xs ++ news) → MS w0 p (R' ++ K) x F w' → Q (a.put o.dst (.slice (some ⟨g, 0, none⟩) (n + m) cap)) w') :
 if Region.wanted o (yielded ops a.tmps) = true then Oper.wp Tryz.prog o a w Q Q' else E := by
 refine step_append_lies w hgd s z t ho w0.heap.size T i zv size bytes ht hi hz hsize hby hzs hsz v n xs hs (MS.ownsG S hR) ad m c news hx hl hnews h1 hm h63 hbytes S.chg.size _ rfl ?_; intro g cap w' hown hgr hg hgl
 obtain ⟨R', hR', S'⟩ := MS.grownG S hR hown hgr (by
  rcases hg with e | e
  · exact .inl (by rw [e]; simp [Value.ownBlock])
  · exact .inr (by simp [Value.ownBlock, e])) hm
 exact h g cap w' R' hR' S'
set_option maxRecDepth 100000 in
theorem ms_dicts (S : MS w0 p K x F w) (hl : 0 < x.ds.length) (hl2 : x.ds.length ≤ 1000) (n : Nat) (hn : x.ds.length = n) :
 Calls Tryz.prog 228 #[ptr p.cp] w fun e w' => CopyOf w w' x.ds n e := by
 subst hn; obtain ⟨i0, hi, hz0, hz1, hz2⟩ := info_parts Tryz.infoObj; obtain ⟨qs, e, hb, NM, sv, hkp, R, fv, R2, tv, h1, h2, g, cap, cur, i1, i2, i3, i4, S⟩ := S; have Rs := cells_of (S.box (p.cp, scpBox p.hp g x.ds.length cap) (List.mem_cons_of_mem _ (List.mem_cons_self ..))); have hbox := S.box (g, .cells cur 49) (List.mem_cons_self ..); simp only at Rs hbox
 have HN := hid' (fun j u (hj : (x.ds.flatMap O.cells)[j]? = some u) => (show w.cell? ((⟨g, 0, none⟩ : Addr).add j) = some u by
  exact World.news_of_block hbox j u (by
   rw [← i4, List.getElem?_take] at hj; split at hj
   · rw [← hj, Array.getElem?_toList]
   · simp at hj)))
 have HL := hid' hl; clear S hbox hl i1 i2 i3 i4 h1 h2 hkp hb e; generalize x.ds = l at *; go_enter Tryz.func228, Tryz.ntmps228
 go_wp2_with (at_builtin; refine wpList_append_own _ rfl _ _ 44 rfl w.heap.size 49 i0 O.nil.val 6 56 Tryz.underObjs hi hz0 hz1 hz2 rfl (by decide) (.slice none 0 0) 0 [] rfl (World.ownsRow_nil _ _ _ _) ⟨g, 0, none⟩ l.length cap (l.flatMap O.cells) rfl (flat_length O.cells 6 cells_length l) (fun j u hj => HN.out j u hj) (flat_one l) ?_ ?_ ?_ ?_; (unfold maxLen; omega); omega; (simp; try omega); intro v' w2 hown hgr _)
 have X : Chg NoB w w2 := Chg.grown (Chg.refl _ _) hgr (fun k hk => by simp [Value.ownBlock] at hk); go_ret; simp only [Nat.zero_add, List.nil_append] at hown; obtain ⟨hl2, ⟨rfl, h0⟩ | ⟨g', cap', cur', rfl, hg0, hg', c1, c2, c3, c4⟩⟩ := hown
 · have := HL.out; omega
 · exact ⟨g', cap', cur', rfl, hg0, hg', c1, c2, c3, c4, X⟩
theorem MS.newer (S : MS w0 p K x F w) (n : Int) (L1 : List C) (hk : x.kp = [(n, L1)]) (y : O) :
 Calls Tryz.prog 235 #[ptr p.vp, (svO n).val, y.val] w fun e w' => e = .returned (.bool (newerS 0 L1.length (svO n) y)) ∧ MS w0 p K x F w' :=
 S.vask (L' := x.L) (kp' := x.kp) (sl' := x.sl) fun NM sv K' hkp A => by
  obtain ⟨hl, hq⟩ := hkp; rw [hk] at hl hq; obtain ⟨q, rfl⟩ := List.length_eq_one_iff.1 hl; obtain ⟨e1, e2⟩ := hq 0 q (n, L1) rfl rfl; simp only at e1 e2
  refine (at_newer A (List.mem_cons_self ..) (by show 1 ≤ 10; decide) (svO n) y 0 L1.length (.inl ⟨0, q, rfl, rfl, by simp [hit, eqO, e1], fun j p hj => by omega⟩) (fun _ => ⟨q, L1, rfl, List.mem_cons_of_mem _ e2, rfl⟩)).mono fun r w' ⟨r1, r2⟩ => ⟨r1, NM, [q], ⟨by rw [hk]; rfl, by rw [hk]; exact hq⟩, r2⟩
theorem MS.back (S : MS w0 p K x F w) (n : Int) (L1 : List C) (hk : x.kp = [(n, L1)]) :
 Calls Tryz.prog 236 #[ptr p.vp, ptr p.hp, (svO n).val] w fun e w' => e = .returned (.int .i64 0) ∧ MS w0 p K { x with L := L1, kp := [] } F w' :=
 S.vask (L' := L1) (kp' := []) (sl' := x.sl) fun NM sv K' hkp A => by
  obtain ⟨hl, hq⟩ := hkp; rw [hk] at hl hq; obtain ⟨q, rfl⟩ := List.length_eq_one_iff.1 hl; obtain ⟨e1, e2⟩ := hq 0 q (n, L1) rfl rfl; simp only at e1 e2
  refine (at_back A (by show 1 ≤ 10; decide) (svO n) 0 q (.inl ⟨0, q, rfl, rfl, by simp [hit, eqO, e1], fun j p hj => by omega⟩) rfl e2).mono fun r w' ⟨r1, r2⟩ => ⟨r1, NM, [], ⟨rfl, fun i q c h => by simp at h⟩, r2⟩
set_option maxRecDepth 100000 in
theorem m_open (S : MS w0 p K x F w) (n : Int) (L1 : List C) (hk : x.kp = [(n, L1)]) :
 Calls Tryz.prog 234 #[ptr p.mp, (svO n).val] w fun e w' => e = .returned (.bool true) ∧ MS w0 p K x F w' := by
 have HNW := hid' (fun W K' (S' : MS w0 p K' x F W) => S'.newer n L1 hk (svO n)); rw [show newerS 0 L1.length (svO n) (svO n) = true by simp [newerS]] at HNW
 obtain ⟨KQ, S1, hg, hsub⟩ : ∃ KQ, MS w0 p KQ x F (w.alloc (obox (svO n))) ∧ (w.heap.size, obox (svO n)) ∈ KQ ∧ K.Sublist KQ := ⟨_, S.alloc _, m0, List.sublist_cons_self _ _⟩
 have k1 := S1.any; have RC := AnyM.cells (w0 := w0) (p := p) hg; have M3 := AnyM.c3 (w0 := w0) (p := p) (K := KQ); have lt := AnyM.mlt _ k1; have lg := AnyM.lt hg _ k1; simp only at lg; have HS := hid' S1; clear S S1 hk hg; go_enter Tryz.func234, Tryz.ntmps234
 go_upto_region 1 with (fail)
 generalize w.alloc _ = w1 at *; generalize w.heap.size = b at *
 go_region_held3 (fun W' => AnyM w0 p KQ W') (repeat' (first | (with_reducible assumption) | (with_reducible refine AnyM.drew ?_)))
  ((go_at_call 235; refine (HNW.out _ _ (by first | (with_reducible exact HS.out) | (with_reducible exact HS.out.drew))).mono ?_; rintro r w4 ⟨rfl, S4⟩; have k4 := S4.any))
 go_wp2_with fail
 go_ret; exact ⟨rfl, S4.keep hsub⟩
end
end
section
theorem news_takeM {w : World} {g : Nat} {cur : Array Value} {fz : Nat × Nat} (hb : w.heap[g]? = some (.cells cur T fz)) (n : Nat) (xs : List Value) (hx : cur.toList.take n = xs) : ∀ j u, xs[j]? = some u → w.cell? ((⟨g, 0, none⟩ : Addr).add j) = some u := by
 intro j u hj; refine World.news_of_block hb j u ?_; rw [← hx, List.getElem?_take] at hj; split at hj
 · rw [← hj, Array.getElem?_toList]
 · simp at hj
theorem cut_toM (g N i cap : Nat) (hi : i ≤ cap) (W : World) : (Instr.slice 44 (.slice (some ⟨g, 0, none⟩) N cap) none (some (.int .i64 i)) none).run Tryz.prog W = .ok (.slice (some ⟨g, 0, none⟩) i cap) W := by
 rw [run_slice_h (w := W) 44 (some ⟨g, 0, none⟩) N cap (by rw [Tryz.elemObjs]; exact Tryz.underObjs) .i64 i (by omega) (by omega), Tryz.elemObjs, sizeOf_obj]; simp only [Result.andThen_ok, sliced, Option.map_some, Int.toNat_natCast]; split
 · rfl
 · simp [Addr.add]
theorem row_lessM {g1 cap1 nl : Nat} {cur1 : Array Value} {l l0 : List O} {o : O} (hl : l = l0 ++ [o]) (hn : l0.length = nl) (hc : nl + 1 ≤ cap1) (hm : cap1 ≤ maxLen) (hz : cur1.size = cap1 * 6) (ht : cur1.toList.take ((nl + 1) * 6) = l.flatMap O.cells) :
 RowG 49 6 [(g1, .cells cur1 49)] (.slice (some ⟨g1, 0, none⟩) nl cap1) nl (l0.flatMap O.cells) := by
 subst hl; refine RowG.less (ys := o.cells) (.inr ⟨g1, cap1, cur1, rfl, rfl, hc, hm, hz, by rw [ht]; simp, ?_⟩) (by rw [flat_length O.cells 6 cells_length, hn]); rw [List.length_append, flat_length O.cells 6 cells_length, hn, Nat.succ_mul]; rfl
section
variable {w0 w w' : World} {p : MP} {K K' : List (Nat × Obj)} {x y z : MX} {F G : List Fr}
theorem MS.frow {fr : Fr} (S : MS w0 p K x [fr] w) : ∃ q g c cur tv, w.heap[p.mp]? = some (mBox p.hp p.cp p.sp p.vp (.slice (some ⟨g, 0, none⟩) 1 c) tv x) ∧ 1 ≤ c ∧ w.heap[g]? = some (.cells cur 101) ∧ cur[0]? = some (frV (q, fr)) ∧ w.heap[q]? = some (frB (q, fr)).2 := by
 obtain ⟨qs, e, hb, NM, sv, hkp, R, fv, R2, tv, h1, h2, S⟩ := S; obtain ⟨q, rfl⟩ : ∃ q, qs = [q] := List.length_eq_one_iff.1 (by rw [← List.length_map (f := Prod.snd), e]; rfl); obtain ⟨b, f⟩ := q
 obtain rfl : f = fr := by simpa using e
 obtain ⟨g, cap, cur, rfl, rfl, c1, c2, -, -, hcur⟩ := h1.parts (Nat.succ_pos _); refine ⟨b, g, cap, cur, tv, S.box (p.mp, mBox p.hp p.cp p.sp p.vp (.slice (some ⟨g, 0, none⟩) 1 cap) tv x) mem_me, c1, S.box (g, .cells cur 101) (List.mem_append_left _ (List.mem_cons_self ..)), ?_, S.box (frB (b, f)) ?_⟩
 · rw [hcur 0 (by show 0 < 1 * 1; decide)]; rfl
 · exact List.mem_append_right _ (List.mem_append_right _ (List.mem_cons_of_mem _ (List.mem_cons_of_mem _ (List.mem_append_left _ (List.mem_cons_self ..)))))
theorem MS.slen (S : MS w0 p K x F w) (n : Nat) (hn : x.l.length = n) : Calls Tryz.prog 137 #[ptr p.sp] w fun e w' => e = .returned (.int .i64 n) ∧ w = w' := by
 obtain ⟨qs, e, hb, NM, sv, hkp, R, fv, R2, tv, h1, h2, g, cap, cur, i1, i2, i3, i4, T⟩ := S; subst hn; exact stk_len T
set_option maxRecDepth 100000 in
theorem body_holds (q : Nat) (o : O) (i : Nat) (w : World) (hb : w.heap[q]? = some (frB (q, .body o i)).2) :
 Calls Tryz.prog 289 #[ptr q] w fun e w' => e = .returned (.slice (some ⟨w.heap.size, 0, none⟩) 1 1) ∧ w' = w.alloc (.cells o.cells.toArray 49) := by
 obtain ⟨k, ex, n, a, l, s⟩ := o; have R := cells_of hb; have lq := blk_lt hb; simp only [Fr.cells, O.cells, List.cons_append, List.nil_append] at R; clear hb; go_enter Tryz.func289, Tryz.ntmps289
 go_wp2_with fail
 go_ret; exact ⟨rfl, rfl⟩
set_option maxRecDepth 100000 in
set_option maxHeartbeats 4000000 in
theorem m_back {ob : O} {i : Nat} {e : Int} (S : MS w0 p K x [.body ob i] w) (n : Int) (L1 : List C) (hk : x.kp = [(n, L1)]) (l0 : List O) (hl : x.l = l0 ++ [svO n]) (hd : x.ds.length = 2)
 (H : ((∀ y ∈ l0 ++ x.ds ++ [ob], newerS 0 L1.length (svO n) y = false) ∧ e = 0 ∧ z = { x with L := L1, kp := [] }) ∨ ((∃ y ∈ l0 ++ x.ds ++ [ob], newerS 0 L1.length (svO n) y = true) ∧ e = 17 ∧ z = x)) :
 Calls Tryz.prog 193 #[ptr p.mp, (svO n).val] w fun r w' => r = .returned (.int .i64 e) ∧ MS w0 p K z [.body ob i] w' := by
 obtain ⟨i0, hi, hz0, hz1, hz2⟩ := info_parts Tryz.infoObj
 obtain ⟨nl, hnl⟩ : ∃ nl, l0.length = nl := ⟨_, rfl⟩
 have hlen := S.len
 have hl1 : x.l.length = nl + 1 := by rw [hl, List.length_append, hnl]; rfl
 obtain ⟨KQ, S1, hg, hsub⟩ : ∃ KQ, MS w0 p KQ x [.body ob i] (w.alloc (obox (svO n))) ∧ (w.heap.size, obox (svO n)) ∈ KQ ∧ K.Sublist KQ := ⟨_, S.alloc _, m0, List.sublist_cons_self _ _⟩
 have HOP := hid' (fun W K' (S' : MS w0 p K' x [.body ob i] W) => m_open S' n L1 hk); have HIT := hid' (fun W K' (S' : MS w0 p K' x [.body ob i] W) => ms_items S' (by omega) (nl + 1) hl1); have HLN := hid' (fun W K' (S' : MS w0 p K' x [.body ob i] W) => S'.slen (nl + 1) hl1); have HDI := hid' (fun W K' (S' : MS w0 p K' x [.body ob i] W) => ms_dicts S' (by omega) (by omega) 2 hd); have HNW := hid' (fun W K' (y : O) (S' : MS w0 p K' x [.body ob i] W) => S'.newer n L1 hk y); have HBK := hid' (fun W K' (S' : MS w0 p K' x [.body ob i] W) => S'.back n L1 hk); have HH := hid' H
 have hnl2 : (nl : Int) ≤ 200 := by omega
 have e1 : ((nl + 1 : Nat) : Int) - 1 = nl := by omega
 have e2 : (nl : Int) + 1 - 1 = nl := by omega
 have RC := AnyM.cells (w0 := w0) (p := p) hg; have k1 := S1.any; have lg := AnyM.lt hg _ k1; simp only at lg; have N1 := RC _ k1; have HG := hid' hg; have HL := hid' hl; have HNL := hid' hnl; have HD := hid' hd; have HDL := hid' (show (x.ds.flatMap O.cells).length = 2 * 6 by rw [flat_length O.cells 6 cells_length, hd]); clear S hk H hl hd hlen hl1 hg hnl; go_enter Tryz.func193, Tryz.ntmps193
 go_upto_region 1 with (fail)
 generalize w.alloc _ = w1 at *; generalize w.heap.size = b3 at *; go_wp2_with fail
 refine (HOP.out _ _ S1).mono ?_; rintro r w2 ⟨rfl, S2⟩; clear S1 k1 N1 lg HOP; have k2 := S2.any; have M1 := AnyM.c1 (w0 := w0) (p := p) (K := KQ); have M2 := AnyM.c2 (w0 := w0) (p := p) (K := KQ); have lt := AnyM.mlt _ k2; have HS2 := hid' S2; clear S2
 go_upto_region 3 with (fail)
 have v1 : IntKind.i64.wrap (nl : Int) = nl := IntWalk.i64_in (nl : Int) (by omega)
 go_region_held3 (fun W' => AnyM w0 p KQ W') (repeat' (first | (with_reducible assumption) | (with_reducible refine AnyM.drew ?_)))
  (first
   | (go_at_call 17; refine (HIT.out _ _ (by first | (with_reducible exact HS2.out) | (with_reducible exact HS2.out.drew))).mono ?_; rintro r5 w5 ⟨g1, cap1, cur1, rfl, hgI, hbI, hcI, hmI, hzI, htI, XI⟩; have SI : MS w0 p ((g1, .cells cur1 49) :: KQ) x [.body ob i] w5 := (by first | (with_reducible exact HS2.out.got XI hbI hgI) | (with_reducible exact HS2.out.drew.got XI hbI hgI)); have kI : AnyM w0 p KQ w5 := SI.more; have hcu := cut_toM g1 (nl + 1) nl cap1 (by clear v1; omega); have HRI := hid' (row_lessM (g1 := g1) HL.out HNL.out hcI hmI hzI htI))
   | (go_at_call 137; refine (HLN.out _ _ (by first | (with_reducible exact SI) | (with_reducible exact SI.drew))).mono ?_; rintro r6 w6 ⟨rfl, rfl⟩)
   | (go_at_call 228; refine (HDI.out _ _ (by first | (with_reducible exact SI) | (with_reducible exact SI.drew))).mono ?_; rintro r7 w7 ⟨g2, cap2, cur2, rfl, hgD, hbD, hcD, hmD, hzD, htD, XD⟩; have SD : MS w0 p ((g2, .cells cur2 49) :: (g1, .cells cur1 49) :: KQ) x [.body ob i] w7 := (by first | (with_reducible exact SI.got XD hbD hgD) | (with_reducible exact SI.drew.got XD hbD hgD)); have kD : AnyM w0 p KQ w7 := SD.more2)
   | (refine step_appM rfl (.tmp 25) (.tmp 30) 44 rfl 49 i0 O.nil.val 6 56 Tryz.underObjs hi hz0 hz1 hz2 rfl (by decide) [(g1, .cells cur1 49)] ((g2, .cells cur2 49) :: KQ) (.slice (some ⟨g1, 0, none⟩) nl cap1) nl (l0.flatMap O.cells) (by first | (with_reducible exact SD.perm (List.Perm.swap _ _ _)) | (with_reducible exact SD.drew.perm (List.Perm.swap _ _ _))) HRI.out rfl ⟨g2, 0, none⟩ 2 cap2 (x.ds.flatMap O.cells) rfl HDL.out (by first | exact news_takeM (SD.box _ m0) _ _ htD | exact news_takeM (SD.drew.box _ m0) _ _ htD) (flat_one x.ds) (by decide) (by clear v1; unfold maxLen; omega) (by clear v1; omega) ?_; intro g8 cap8 w8 R8 hR8 S8; have k8 : AnyM w0 p KQ w8 := (S8.keep (List.sublist_append_right _ _)).more))
 have S9 := S8.keep ((List.Sublist.refl R8).append (List.sublist_cons_self (g2, Obj.cells cur2 49) KQ)); have HR8 := hid' hR8; clear S8 SD SI kI kD k8 XI XD HRI HDL hcu v1 hbI hbD htI htD hgI hgD hR8 HS2 k2 lt M1 M2 HIT HLN HDI e1 e2; obtain ⟨q, gf, cf, curf, tv, hmb, hcf, hbf, hf0, hq⟩ := S9.frow; have RM := cells_of hmb; have lM := blk_lt hmb; have RF := cells_of hbf; have lF := blk_lt hbf; simp only [frV, Fr.pt] at hf0
 have hcfi : (1 : Int) ≤ cf := by omega
 have HQ := hid' hq
 have hmt : ∀ (q : Nat) (W : World), (method 415 68 (ptr q) "tympan/machine.holds").run Tryz.prog W = .ok (289, ptr q) W := fun _ _ => by kernel_rfl
 have HS9 := hid' S9; clear hmb hbf hq S9; go_wp2_with fail
 go_loopw [5, 37] (fun sv cv wr => (cv = .int .i64 0 ∧ sv = .slice (some ⟨g8, 0, none⟩) (nl + 2) cap8 ∧ wr = w8) ∨ (cv = .int .i64 1 ∧ ∃ R9 g9 cap9, sv = .slice (some ⟨g9, 0, none⟩) (nl + 3) cap9 ∧ RowG 49 6 R9 sv (nl + 3) ((l0 ++ x.ds ++ [ob]).flatMap O.cells) ∧ MS w0 p (R9 ++ KQ) x [.body ob i] wr)) (fun _ cv _ => 1 - (intOf cv).toNat)
 case atStart => exact .inl ⟨rfl, rfl, rfl⟩
 case round =>
  rcases hrel with ⟨rfl, rfl, rfl⟩ | ⟨rfl, R9, g9, cap9, rfl, hR9, S9⟩
  · go_wp2_with fail
    refine (body_holds q ob i _ HQ.out).mono ?_; rintro r w9 ⟨rfl, rfl⟩; have S10 := HS9.out.alloc (.cells ob.cells.toArray 49); have S11 : MS w0 p (R8 ++ ((wr.heap.size, .cells ob.cells.toArray 49) :: KQ)) x [.body ob i] (wr.alloc (.cells ob.cells.toArray 49)) := S10.perm List.perm_middle.symm; have HS11 := hid' S11; have hone : ∀ u ∈ ob.cells, u.oneCell' = true := one6' ob; have hrd : ∀ j u, ob.cells[j]? = some u → (wr.alloc (.cells ob.cells.toArray 49)).cell? ((⟨wr.heap.size, 0, none⟩ : Addr).add j) = some u := news_takeM (blk_new wr (.cells ob.cells.toArray 49)) 6 ob.cells (by simp [O.cells]); have HRD := hid' hrd; clear S10 S11 RM lM RF lF hrd
    go_wp2_with (at_builtin; refine wpList_append_own_at _ rfl (.tmp 41) (.tmp 43) 44 rfl w0.heap.size 49 i0 O.nil.val 6 56 Tryz.underObjs hi hz0 hz1 hz2 rfl (by decide) (.slice (some ⟨g8, 0, none⟩) (nl + 2) cap8) (nl + 2) (l0.flatMap O.cells ++ x.ds.flatMap O.cells) rfl (HS11.out.ownsG HR8.out) ⟨wr.heap.size, 0, none⟩ 1 1 ob.cells rfl rfl HRD.out hone ?_ ?_ ?_ ?_; (unfold maxLen; omega); omega; (exact HS11.out.chg.size); intro v5 w5 hown5 hgr5 _ hob5; obtain ⟨R', hR', S5⟩ := MS.grownG HS11.out HR8.out hown5 hgr5 hob5 (by decide); obtain ⟨g5, cap5, cur5, rfl, rfl, -⟩ := hR'.parts (Nat.succ_pos _); have HR5 := hid' hR'; have HS5 := hid' S5; clear hown5 hgr5 hob5 hR' S5)
    go_wp2_with fail
    go_roundw
    case rel =>
     refine .inr ⟨rfl, _, g5, cap5, rfl, ?_, HS5.out.keep ((List.Sublist.refl _).append (List.sublist_cons_self _ _))⟩; have := HR5.out; rw [show (l0 ++ x.ds ++ [ob]).flatMap O.cells = l0.flatMap O.cells ++ x.ds.flatMap O.cells ++ ob.cells by simp]; exact this
    case measure => simp [intOf]
  · obtain ⟨g9', cap9', cur9, he9, rfl, hcur9⟩ := hR9.shape (Nat.succ_pos _)
    obtain ⟨rfl, rfl⟩ : g9 = g9' ∧ cap9 = cap9' := by simpa using he9
    obtain ⟨N, hN⟩ : ∃ N, N = nl + 3 := ⟨_, rfl⟩
    obtain ⟨al, hal⟩ : ∃ al, al = l0 ++ x.ds ++ [ob] := ⟨_, rfl⟩
    have hall : al.length = N := by rw [hal, hN, List.length_append, List.length_append, HNL.out, HD.out]; rfl
    rw [← hal, ← hN] at hcur9
    have hc9 : N ≤ cap9 := by
     rcases hR9 with ⟨h, -⟩ | ⟨g, c, cu, h, -, h2, -⟩
     · simp at h
     · simp only [Value.slice.injEq] at h; omega
    rw [← hal] at HH; have HRD := hid' hcur9; have HAL := hid' hall
    have hNi : (N : Int) ≤ 203 := by omega
    have hci : (N : Int) ≤ cap9 := by omega
    rw [show (nl + 3 : Nat) = N from hN.symm]; have S10 : MS w0 p ((g9, .cells cur9 49) :: KQ) x [.body ob i] wr := S9
    obtain ⟨KR, S11, hg9, hb3, hsub2⟩ : ∃ KR, MS w0 p KR x [.body ob i] wr ∧ (g9, Obj.cells cur9 49) ∈ KR ∧ (b3, obox (svO n)) ∈ KR ∧ K.Sublist KR := ⟨_, S10, m0, List.mem_cons_of_mem _ HG.out, hsub.trans (List.sublist_cons_self _ _)⟩
    clear hR9 S9 S10 he9 hcur9 hall hal hc9 hf0 RF lF RM lM HQ HS9 hN HR8 hmt; go_wp2_with fail
    go_loopw [48] (fun cv wx => ∃ k : Nat, k ≤ N ∧ cv = .int .i64 k ∧ (∀ j y, j < k → al[j]? = some y → newerS 0 L1.length (svO n) y = false) ∧ MS w0 p KR x [.body ob i] wx) (fun cv _ => N - (intOf cv).toNat)
    case atStart => exact ⟨0, Nat.zero_le _, rfl, fun j y hj => absurd hj (by omega), S11⟩
    case round =>
     obtain ⟨k, hkN, rfl, hno, S12⟩ := hrel; clear S11; have HNO := hid' hno; clear hno
     by_cases hlt : k < N
     · obtain ⟨y, hy⟩ : ∃ y, al[k]? = some y := ⟨al[k]'(by rw [HAL.out]; exact hlt), List.getElem?_eq_getElem _⟩
       have HY := hid' hy; have qv := fun j (hj : j < 6) => (HRD.out (k * 6 + j) (by omega)).trans (flat_at al k j y hy hj); have q0 := qv 0 (by omega); have q1 := qv 1 (by omega); have q2 := qv 2 (by omega); have q3 := qv 3 (by omega); have q4 := qv 4 (by omega); have q5 := qv 5 (by omega)
       have dl : (k : Int) < N := by omega
       have HNY := hid' (fun W K' (S' : MS w0 p K' x [.body ob i] W) => HNW.out W K' y S')
       obtain ⟨b, hb⟩ : ∃ b, newerS 0 L1.length (svO n) y = b := ⟨_, rfl⟩
       rw [hb] at HNY; have HB := hid' hb; obtain ⟨kk, kx, kn, kp, kl, ks⟩ := y; simp only [O.cells, List.getElem?_cons_zero, List.getElem?_cons_succ, Nat.add_zero] at q0 q1 q2 q3 q4 q5; have RG := cells_of (S12.box _ hg9); have lG := blk_lt (S12.box _ hg9); simp only at RG lG
       obtain ⟨KJ, SJ, hjm, hj3, hsj⟩ : ∃ KJ, MS w0 p KJ x [.body ob i] (wr.alloc (Obj.cells #[.int .i64 kk, .bool kx, .int .i64 kn, .int .i64 kp, .int .i64 kl, .string ks] 49)) ∧ (wr.heap.size, Obj.cells #[.int .i64 kk, .bool kx, .int .i64 kn, .int .i64 kp, .int .i64 kl, .string ks] 49) ∈ KJ ∧ (b3, obox (svO n)) ∈ KJ ∧ KR.Sublist KJ := ⟨_, S12.alloc _, m0, List.mem_cons_of_mem _ hb3, List.sublist_cons_self _ _⟩
       have RJ := AnyM.cells (w0 := w0) (p := p) hjm; have R3 := AnyM.cells (w0 := w0) (p := p) hj3; have M3 := AnyM.c3 (w0 := w0) (p := p) (K := KJ); have kj := SJ.any; have HSJ := hid' SJ; have lj := AnyM.lt hjm _ kj; have l3 := AnyM.lt hj3 _ kj; have ltj := AnyM.mlt _ kj; simp only at lj l3; clear hy qv SJ S12 hjm hj3 hb
       go_upto_region 12 with (fail)
       clear RG lG q0 q1 q2 q3 q4 q5; generalize wr.alloc _ = w5 at *; generalize wr.heap.size = b5 at *
       go_region_held3 (fun W' => AnyM w0 p KJ W') (repeat' (first | (with_reducible assumption) | (with_reducible refine AnyM.drew ?_)))
        ((go_at_call 235; refine (HNY.out _ _ (by first | (with_reducible exact HSJ.out) | (with_reducible exact HSJ.out.drew))).mono ?_; rintro r7 w7 ⟨rfl, S7⟩; have k7 := S7.any))
       cases b with
       | true =>
        go_wp2_with fail
        go_ret
        rcases HH.out with ⟨hf, -⟩ | ⟨-, rfl, rfl⟩
        · have := hf _ (List.mem_of_getElem? HY.out); rw [HB.out] at this; simp at this
        · exact ⟨rfl, S7.keep (hsub2.trans hsj)⟩
       | false =>
        go_wp2_with fail
        go_roundw
        case rel =>
         refine ⟨k + 1, by omega, by go_num, fun j y hj hy => ?_, S7.keep hsj⟩
         rcases Nat.lt_succ_iff_lt_or_eq.1 hj with h | rfl
         · exact HNO.out j y h hy
         · rw [HY.out, Option.some.injEq] at hy; rw [← hy]; exact HB.out
        case measure => simp [intOf]; omega
     · obtain rfl : k = N := by omega
       have k12 := S12.any; have R3 := AnyM.cells (w0 := w0) (p := p) hb3; have M0 := AnyM.c0 (w0 := w0) (p := p) (K := KR); have M3 := AnyM.c3 (w0 := w0) (p := p) (K := KR); have l3 := AnyM.lt hb3 _ k12; have ltj := AnyM.mlt _ k12; simp only at l3; have HS12 := hid' S12; clear S12
       go_upto_region 15 with (fail)
       go_region_held3 (fun W' => AnyM w0 p KR W') (repeat' (first | (with_reducible assumption) | (with_reducible refine AnyM.drew ?_)))
        ((go_at_call 236; refine (HBK.out _ _ (by first | (with_reducible exact HS12.out) | (with_reducible exact HS12.out.drew))).mono ?_; rintro r7 w7 ⟨rfl, S7⟩; have k7 := S7.any))
       go_wp2_with fail
       go_ret
       rcases HH.out with ⟨-, rfl, rfl⟩ | ⟨⟨y, hy, hn⟩, -⟩
       · exact ⟨rfl, S7.keep hsub2⟩
       · obtain ⟨j, hj, rfl⟩ := List.getElem_of_mem hy; have := HNO.out j al[j] (by rw [← HAL.out]; exact hj) (List.getElem?_eq_getElem _); rw [hn] at this; simp at this
end
end
end Go.Proofs.YtpiomapnmempoaaGreat
