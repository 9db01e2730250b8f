/- Parts of the proof: Rmo, Rst, Rxm, Rxn, Rxd, Rxu, Rxr. -/
import Derived.OwnWalk
import Derived.Test.YtoogmimbmgdflaaGreatY13
namespace Go.Proofs.YtoogmimbmgdflaaGreat
open Go.RowKit
variable {E J0 K : List (Nat × Obj)} {w w0 : World} {M : List (Nat × List C)} {gp i : Nat} {L L' : List C} {c : C} {o : O} {e n : Int}
set_option maxRecDepth 100000 in
set_option maxHeartbeats 4000000 in
theorem rmake_ok {ck : Int} {vi vb : Value} {clk : Bool} (H : RefK J0 gp L E) (A : Ats w0 w M (E ++ K)) (hc : CellIn E c [.int .i64 ck, vi, vb, .bool clk]) (hb : c.size ≤ 100000) (he : addE L c = 0) :
 Calls Tryz.prog 66 #[ptr gp, .agg #[.int .i64 ck, vi, vb, .bool clk]] w fun e w' => e = .returned (.tuple #[(objOf L c).val, .int .i64 0]) ∧ ∃ E', RefK J0 gp (L ++ [c]) E' ∧ Ats w0 w' M (E' ++ K) := by
 have HRef := hid' H; obtain ⟨h1, h2⟩ := H.bounds; obtain ⟨J, R, lv, rows, hJ0, rfl, hR, hrl, hrc, -, -, hnil⟩ := H; have HC := hid' hc; have hone := hc.one; have hsz := hc.size; obtain ⟨vi', vb', hvs, hi6, hb1, -⟩ := hc; simp only [List.cons.injEq, Value.int.injEq, Value.bool.injEq, true_and, and_true] at hvs; obtain ⟨hck, rfl, rfl, -⟩ := hvs; obtain ⟨a, ca, rfl, -⟩ := hi6.slice; obtain ⟨b, cb, rfl, -⟩ := hb1.slice
 have hl4 : ∀ r ∈ rows, r.length = 4 := fun r hr => by
  obtain ⟨k, hk, rfl⟩ := List.getElem_of_mem hr; exact (hrc k (L[k]'(by omega)) rows[k] (List.getElem?_eq_getElem _) (List.getElem?_eq_getElem _)).len
 have hone1 : ∀ u ∈ joinV rows, u.oneCell' = true := fun u hu => by
  obtain ⟨r, hr, hu⟩ := List.mem_flatMap.1 hu; obtain ⟨k, hk, rfl⟩ := List.getElem_of_mem hr; exact (hrc k (L[k]'(by omega)) rows[k] (List.getElem?_eq_getElem _) (List.getElem?_eq_getElem _)).one u hu
 have hjl := joinV_len rows hl4; rw [hrl] at hjl; have HS := fun w' => rsize_any ck a b c.items.length ca c.bytes.length cb clk (by omega) (by omega) w'; rw [hsz] at HS
 have hmem : (gp, refBox lv) ∈ J ++ (R ++ [(gp, refBox lv)]) := by simp
 have hbnd : (used L : Int) + (c.size : Int) ≤ 40000 ∧ (L.length : Int) < 2000 := by
  unfold addE at he
  by_cases c1 : 2000 ≤ L.length ∨ 40000 - used L < c.size
  · rw [if_pos c1] at he; simp at he
  · omega
 have hpos : L ≠ [] → 0 < L.length := fun h => List.length_pos_iff.2 h; obtain ⟨K2, A1, mC, mR, hK2⟩ := A.twoE (.cells #[.int .i64 ck, .slice a c.items.length ca, .slice b c.bytes.length cb, .bool clk] 108) (Obj.cells #[.int .i64 0, .bool false, .int .i64 0, .int .i64 0, .int .i64 0, .string ⟨#[]⟩] 39); have HK2 := hid' hK2
 have HOB : Hid (objOf L c = ⟨ck, false, L.length, 0, if ck = 10 then 0 else c.size, ⟨#[]⟩⟩) := by rw [hck]; rfl
 have HUsz : Hid (used L + c.size ≤ 40000) := by have := hbnd.1; exact (by omega : used L + c.size ≤ 40000)
 have u1 : (used L : Int) ≤ 40000 := by omega
 have u2 : (c.size : Int) ≤ 40000 := by omega
 have u3 : (0 : Int) ≤ used L := by omega
 have u4 : (0 : Int) ≤ c.size := by omega
 have HU := fun U (hU : (used L : Int) = U) W (h : AnyA w0 M ((J ++ (R ++ [(gp, refBox lv)])) ++ K2) W) => rused_anyA HRef.out (fun q hq => List.mem_append_left K2 hq) U hU h
 obtain ⟨U, hU⟩ : ∃ U : Int, (used L : Int) = U := ⟨_, rfl⟩
 have HU := HU U hU
 obtain ⟨Z, hZ⟩ : ∃ Z : Int, (c.size : Int) = Z := ⟨_, rfl⟩
 have HZ := hid' hZ; obtain ⟨hbnd1, hbnd2⟩ := hbnd; rw [hU] at u1 u3 hbnd1; rw [hZ] at u2 u4 hbnd1 HS
 obtain ⟨n, hn⟩ : ∃ n, L.length = n := ⟨_, rfl⟩
 obtain ⟨cap0, al, hlv, hcap⟩ : ∃ cap al, lv = .slice al n cap ∧ n ≤ cap := by
  rcases hR with ⟨rfl, h0, -⟩ | ⟨g, cap, cur, rfl, -, h, -⟩
  · exact ⟨0, none, by rw [← hn, h0], by omega⟩
  · exact ⟨_, _, by rw [hn], by omega⟩
 rw [hn] at hbnd2; have HN := hid' hn; have HSH := hid' HS; have HUH := hid' HU; have HR := hid' hR; have HRC := hid' hrc; have HRL := hid' hrl; have HJ0 := hid' hJ0; have HJ := hid' hjl; have HO1 := hid' hone1; have HO2 := hid' hone; have HPOS := hid' hpos; have HNIL := hid' hnil; clear hJ0 hn HS HU hR hrc hrl hjl hone1 hone hpos hnil hK2 hU hZ hl4 hsz he hck hi6 hb1 A h1 h2 hb; generalize c.items.length = ni at *; generalize c.bytes.length = nb at *; have mG : (gp, refBox lv) ∈ (J ++ (R ++ [(gp, refBox lv)])) ++ K2 := List.mem_append_left _ hmem; have Rg := AnyA.cells (w0 := w0) (M := M) mG; have Rc := AnyA.cells (w0 := w0) (M := M) (List.mem_append_right (J ++ (R ++ [(gp, refBox lv)])) mC); have HLV := hid' hlv; have hS1 := A1; have wr := IntWalk.i64_in (U + Z) (by omega); clear hmem
 obtain ⟨E, hE⟩ : ∃ E, E = J ++ (R ++ [(gp, refBox lv)]) := ⟨_, rfl⟩
 rw [← hE] at HUH Rg Rc hS1 A1 mG; rw [hlv] at Rg; have HE := hid' hE; clear hE hlv; have HMG := hid' mG; have HMC := hid' mC; have HMR := hid' mR; clear mG mC mR
 obtain ⟨lo, hlo⟩ : ∃ lo : Int, (if ck = 10 then 0 else (c.size : Int)) = lo := ⟨_, rfl⟩
 rw [HOB.out, HN.out, hlo]; have HLO := hid' hlo; clear hlo
 have hd1 : decide ((2000 : Int) ≤ (n : Int)) = false := by simp; omega
 have hd2 : decide ((40000 : Int) < U + Z) = false := by simp; omega
 go_enter Tryz.func66, Tryz.ntmps66
 go_wp2_with fail
 generalize hW : (w.alloc _).alloc _ = w1 at *; clear hW
 go_region_held3 (fun W' => AnyA w0 M (E ++ K2) W') (first | (with_reducible assumption) | (with_reducible exact AnyA.pure (by with_reducible assumption) (by with_reducible assumption)) | (with_reducible exact AnyA.drew (by with_reducible assumption)))
  (first | (go_at_call 21; refine (HUH.out _ (by first | (with_reducible exact A1) | (with_reducible exact A1.drew) | (with_reducible assumption) | (with_reducible exact AnyA.drew (by with_reducible assumption)))).mono ?_; rintro r w4 ⟨rfl, S4⟩) | (go_at_call 54; refine (HSH.out _).mono ?_; rintro r w5 ⟨rfl, X5⟩))
 have A6 : Ats w0 w5 M (E ++ K2) := Ats.pure S4 X5; clear Rg Rc A1 hS1 S4 X5 wr hd1 hd2; generalize w5 = w6 at *
 go_upto_region 3 with (fail)
 obtain ⟨i0, hi, hz0, hz1, hz2⟩ := info_parts Tryz.infoRcell; have HA := hid' A6
 (try clear Rg); (try clear yg); (try clear Zg)
 have Rg := cells_of (A6.box _ HMG.out); have yg := blk_lt (A6.box _ HMG.out); have Zg := free_of (A6.box _ HMG.out)
 (try clear Rc); (try clear yc); (try clear Zc)
 have Rc := cells_of (A6.box _ (List.mem_append_right E HMC.out)); have yc := blk_lt (A6.box _ (List.mem_append_right E HMC.out))
 (try simp only at Rg yg Zg Rc yc)
 have RG := Rg; rw [HLV.out] at RG
 have HAL : ∀ W, Ats w0 W M (E ++ K2) → (∀ i, W.cell? ⟨gp, i, none⟩ = #[Value.slice al n cap0][i]?) ∧ (∀ i, W.cell? ⟨w.heap.size, i, none⟩ = #[Value.int .i64 ck, Value.slice a ni ca, Value.slice b nb cb, Value.bool clk][i]?) := fun W AW => ⟨by rw [← HLV.out]; exact cells_of (AW.box _ HMG.out), cells_of (AW.box _ (List.mem_append_right E HMC.out))⟩
 have HALH := hid' HAL; clear A6 Rg HAL; have Rg := RG; clear RG
 go_cut [] (fun wx => ∃ E', RefK J0 gp (L ++ [c]) E' ∧ Ats w0 wx M (E' ++ K2))
 case first =>
  have CL : ∀ (W : World) (R2 : List (Nat × Obj)) (v : Value) (xs : List Value), xs = joinV rows → Ats w0 W M (R2 ++ (E ++ K2)) → RowG 108 4 R2 v (n + 1) (xs ++ [.int .i64 ck, .slice a ni ca, .slice b nb cb, .bool clk]) → ∃ E', RefK J0 gp (L ++ [c]) E' ∧ Ats w0 (W.setCell ⟨gp, 0, none⟩ v) M (E' ++ K2) := fun W R2 v xs hx AW hR => by
   subst hx; rw [HE.out] at AW; exact RefK.grow AW (by rw [HN.out]; exact hR) HRL.out HRC.out HC.out.less (by rw [HN.out]; omega) HUsz.out HJ0.out
  have HCL := hid' CL; clear CL
  rcases Nat.eq_zero_or_pos n with h0 | hpos
  · have hL : L = [] := List.eq_nil_of_length_eq_zero (by rw [HN.out, h0]); have hlv := HNIL.out hL; rw [HLV.out] at hlv; simp only [Value.slice.injEq] at hlv; obtain ⟨rfl, -, rfl⟩ := hlv; subst h0
    have hrows : joinV rows = [] := by
     have := HJ.out; rw [hL] at this; exact List.eq_nil_of_length_eq_zero this
    have HJZ := hid' hrows; clear hrows hL
    go_region_law (first
     | (refine step_app0 rfl (.tmp 27) (.tmp 29) 27 rfl 108 i0 (.agg #[.int .i64 0, .slice none 0 0, .slice none 0 0, .bool false]) 4 64 Tryz.underRcells hi hz0 hz1 hz2 rfl (by decide) (E ++ K2) (by first | exact HA.out.pure ((Chg.refl NoB w6).alloc _) | exact HA.out.pure (((Chg.refl NoB w6).alloc _).drew)) rfl ⟨w6.heap.size, 0, none⟩ 1 1 [.int .i64 ck, .slice a ni ca, .slice b nb cb, .bool clk] rfl rfl (news_new (T := 108) (fz := (0, 0)) (by first | exact blk_new w6 _ | exact blk_drew (blk_new w6 _))) HO2.out (by decide) (by unfold maxLen; omega) (by omega) ?_; intro g2 cap2 w8 R8 hR8 A8; have HR8 := hid' hR8; have HA8 := hid' A8; clear hR8 A8; have Rg8 := cells_of (HA8.out.box _ (List.mem_append_right R8 HMG.out)); rw [HLV.out] at Rg8; have Zg8 := free_of (HA8.out.box _ (List.mem_append_right R8 HMG.out)); have yg8 := blk_lt (HA8.out.box _ (List.mem_append_right R8 HMG.out)))
     | fail)
    all_goals
     go_wp2_with fail
     go_meet
     exact HCL.out _ R8 _ [] HJZ.out.symm HA8.out HR8.out
  · obtain ⟨g, cur, hal, mg, hcl, hct, hjl⟩ : ∃ g cur, al = some ⟨g, 0, none⟩ ∧ (g, Obj.cells cur 108) ∈ E ++ K2 ∧ cap0 ≤ maxLen ∧ cur.toList.take (n * 4) = joinV rows ∧ (joinV rows).length = n * 4 := by
     have hr := HR.out; rw [HLV.out, HN.out] at hr
     rcases hr with ⟨hv, h0, -⟩ | ⟨g, cap, cur, hv, hR', h1, h2, h3, h4, h5⟩
     · omega
     · simp only [Value.slice.injEq, true_and] at hv; obtain ⟨rfl, rfl⟩ := hv; exact ⟨g, cur, rfl, by rw [HE.out, hR']; simp, h2, h4, h5⟩
    subst hal; have HT := hid' hct; have HJ1 := hid' hjl; have HMg := hid' mg; clear hct hjl mg
    go_region_law (first
     | (refine step_app0 rfl (.const (.slice none 0 0)) (.tmp 26) 27 rfl 108 i0 (.agg #[.int .i64 0, .slice none 0 0, .slice none 0 0, .bool false]) 4 64 Tryz.underRcells hi hz0 hz1 hz2 rfl (by decide) ((w6.heap.size, (Obj.cells #[.int .i64 ck, .slice a ni ca, .slice b nb cb, .bool clk] 108)) :: (E ++ K2)) (by first | exact (HA.out.alloc _) | exact (HA.out.alloc _).drew) rfl ⟨g, 0, none⟩ n cap0 (joinV rows) rfl HJ1.out (news_take (by first | exact (blk_alloc (HA.out.box _ HMg.out) _) | exact blk_drew (blk_alloc (HA.out.box _ HMg.out) _)) (n * 4) _ HT.out) HO1.out hpos (by unfold maxLen; omega) (by omega) ?_; intro g1 cap1 w7 R7 hR7 A7; have HR7 := hid' hR7; have HA7 := hid' A7; clear hR7 A7; obtain ⟨Rg7, Rc7⟩ := HALH.out w7 (HA7.out.keep (((List.sublist_cons_self _ _)).trans (List.sublist_append_right _ _))))
     | (refine step_app0 rfl (.const (.slice none 0 0)) (.tmp 26) 27 rfl 108 i0 (.agg #[.int .i64 0, .slice none 0 0, .slice none 0 0, .bool false]) 4 64 Tryz.underRcells hi hz0 hz1 hz2 rfl (by decide) (E ++ K2) (by first | exact HA.out | exact HA.out.drew) rfl ⟨g, 0, none⟩ n cap0 (joinV rows) rfl HJ1.out (news_take (by first | exact (HA.out.box _ HMg.out) | exact blk_drew (HA.out.box _ HMg.out)) (n * 4) _ HT.out) HO1.out hpos (by unfold maxLen; omega) (by omega) ?_; intro g1 cap1 w7 R7 hR7 A7; have HR7 := hid' hR7; have HA7 := hid' A7; clear hR7 A7; obtain ⟨Rg7, Rc7⟩ := HALH.out w7 (HA7.out.keep (List.sublist_append_right _ _)))
     | (refine step_app rfl (.tmp 27) (.tmp 29) 27 rfl 108 i0 (.agg #[.int .i64 0, .slice none 0 0, .slice none 0 0, .bool false]) 4 64 Tryz.underRcells hi hz0 hz1 hz2 rfl (by decide) R7 (E ++ K2) (.slice (some ⟨g1, 0, none⟩) n cap1) n (joinV rows) (by first | exact HA7.out.pure ((Chg.refl NoB w7).alloc _) | exact HA7.out.pure (((Chg.refl NoB w7).alloc _).drew)) HR7.out rfl ⟨w7.heap.size, 0, none⟩ 1 1 [.int .i64 ck, .slice a ni ca, .slice b nb cb, .bool clk] rfl rfl (news_new (T := 108) (fz := (0, 0)) (by first | exact blk_new w7 _ | exact blk_drew (blk_new w7 _))) HO2.out (by decide) (by unfold maxLen; omega) (by omega) ?_; intro g2 cap2 w8 R8 hR8 A8; have HR8 := hid' hR8; have HA8 := hid' A8; clear hR8 A8; have Rg8 := cells_of (HA8.out.box _ (List.mem_append_right R8 HMG.out)); rw [HLV.out] at Rg8; have Zg8 := free_of (HA8.out.box _ (List.mem_append_right R8 HMG.out)); have yg8 := blk_lt (HA8.out.box _ (List.mem_append_right R8 HMG.out)))
     | (refine step_app rfl (.tmp 27) (.tmp 29) 27 rfl 108 i0 (.agg #[.int .i64 0, .slice none 0 0, .slice none 0 0, .bool false]) 4 64 Tryz.underRcells hi hz0 hz1 hz2 rfl (by decide) R7 ((w6.heap.size, (Obj.cells #[.int .i64 ck, .slice a ni ca, .slice b nb cb, .bool clk] 108)) :: (E ++ K2)) (.slice (some ⟨g1, 0, none⟩) n cap1) n (joinV rows) (by first | exact HA7.out | exact HA7.out.drew) HR7.out rfl ⟨w6.heap.size, 0, none⟩ 1 1 [.int .i64 ck, .slice a ni ca, .slice b nb cb, .bool clk] rfl rfl (news_box (T := 108) (fz := (0, 0)) (by first | exact HA7.out | exact HA7.out.drew) (List.mem_append_right R7 (List.mem_cons_self ..))) HO2.out (by decide) (by unfold maxLen; omega) (by omega) ?_; intro g2 cap2 w8 R8 hR8 A8b; have A8 := A8b.keep (List.Sublist.append_left (List.sublist_cons_self _ _) R8); clear A8b; have HR8 := hid' hR8; have HA8 := hid' A8; clear hR8 A8; have Rg8 := cells_of (HA8.out.box _ (List.mem_append_right R8 HMG.out)); rw [HLV.out] at Rg8; have Zg8 := free_of (HA8.out.box _ (List.mem_append_right R8 HMG.out)); have yg8 := blk_lt (HA8.out.box _ (List.mem_append_right R8 HMG.out)))
     | fail)
    all_goals
     go_wp2_with fail
     go_meet
     exact HCL.out _ R8 _ _ rfl HA8.out HR8.out
 case rest =>
  obtain ⟨E', hR', A9⟩ := hcut; generalize wc = w9 at *; obtain ⟨lv9, mG9, hrow9⟩ := hR'.parts
  obtain ⟨a9, c9, rfl, hc9⟩ : ∃ a9 c9, lv9 = .slice a9 (n + 1) c9 ∧ n + 1 ≤ c9 := by
   rcases hrow9 with ⟨h, -⟩ | ⟨g, cap, cur, rfl, h, -⟩
   · simp at h
   · rw [List.length_append, HN.out] at h ⊢; exact ⟨_, _, rfl, h⟩
  have HR9 := hid' hR'; have HM9 := hid' (List.mem_append_left K2 mG9); clear hrow9 hR' mG9 Rg yg Zg Rc yc HALH HA HMG HUH
  (try clear Rg); (try clear yg); (try clear Zg)
  have Rg := cells_of (A9.box _ HM9.out); have yg := blk_lt (A9.box _ HM9.out)
  (try clear Rc); (try clear yc); (try clear Zc)
  have Rc := cells_of (A9.box _ (List.mem_append_right E' HMC.out)); have yc := blk_lt (A9.box _ (List.mem_append_right E' HMC.out))
  (try simp only at Rg yg Rc yc)
  have hw1 : IntKind.i64.wrap ((n : Int) + 1 - 1) = n := by rw [IntWalk.i64_in _ (by omega)]; omega
  have hw2 : IntKind.i64.wrap (((n + 1 : Nat) : Int) - 1) = n := by rw [IntWalk.i64_in _ (by omega)]; omega
  go_upto_region 4 with (fail)
  go_cut [6] (fun s6 wx => ∃ q, s6 = .pointer (some ⟨q, 0, none⟩) ∧ Ats w0 wx M ((q, Obj.cells #[.int .i64 ck, .bool false, .int .i64 n, .int .i64 0, .int .i64 0, .string ⟨#[]⟩] 39) :: (E' ++ K2)))
  case first =>
   go_region
   all_goals
    go_wp2_with fail
    go_meet
    first
     | with_reducible exact ⟨_, rfl, A9.alloc _⟩
     | with_reducible exact ⟨_, rfl, (A9.alloc _).drew⟩
     | with_reducible exact ⟨_, rfl, A9.drew.alloc _⟩
     | with_reducible exact ⟨_, rfl, (A9.drew.alloc _).drew⟩
     | with_reducible exact ⟨_, rfl, (A9.alloc _).drew.putO ck false n 0 0 ⟨#[]⟩⟩
     | with_reducible exact ⟨_, rfl, (A9.alloc _).putO ck false n 0 0 ⟨#[]⟩⟩
  case rest =>
   obtain ⟨q, rfl, A10⟩ := hcut; generalize wc = w10 at *; clear Rg yg Rc yc A9 hw1 hw2; have mR0 := HMR.out
   by_cases hk10 : ck = 10
   · obtain rfl : (0 : Int) = lo := by rw [← HLO.out, if_pos hk10]
     have HK10 := hid' hk10; subst hk10
     (try clear Rq); (try clear yq); (try clear Zq)
     have Rq := cells_of (A10.box _ m0); have yq := blk_lt (A10.box _ m0)
     (try clear Rc); (try clear yc); (try clear Zc)
     have Rc := cells_of (A10.box _ (List.mem_cons_of_mem _ (List.mem_append_right E' HMC.out))); have yc := blk_lt (A10.box _ (List.mem_cons_of_mem _ (List.mem_append_right E' HMC.out)))
     (try clear Rr); (try clear yr); (try clear Zr)
     have Rr := cells_of (A10.box _ (List.mem_cons_of_mem _ (List.mem_append_right E' HMR.out))); have yr := blk_lt (A10.box _ (List.mem_cons_of_mem _ (List.mem_append_right E' HMR.out))); have Zr := free_of (A10.box _ (List.mem_cons_of_mem _ (List.mem_append_right E' HMR.out)))
     (try simp only at Rq yq Rc yc Rr yr Zr)
     go_wp2_with fail
     have A11 := (Ats.outR A10 HK2.out).putO 10 false n 0 0 ⟨#[]⟩; have R11 := cells_of (A11.box _ m0); refine bodyPost_ret (v := .tuple #[O.val (⟨10, false, n, 0, 0, ⟨#[]⟩⟩ : O), .int .i64 0]) ?_ rfl ⟨rfl, E', HR9.out, A11.keep (List.sublist_cons_self _ _)⟩; simp [results, Tryz.results66, go_sem, R11]
   · obtain rfl : Z = lo := by rw [← HLO.out, if_neg hk10, HZ.out]
     have hkc : (ck == 10) = false := by simpa using hk10
     clear hk10
     (try clear Rq); (try clear yq); (try clear Zq)
     have Rq := cells_of (A10.box _ m0); have yq := blk_lt (A10.box _ m0); have Zq := free_of (A10.box _ m0)
     (try clear Rc); (try clear yc); (try clear Zc)
     have Rc := cells_of (A10.box _ (List.mem_cons_of_mem _ (List.mem_append_right E' HMC.out))); have yc := blk_lt (A10.box _ (List.mem_cons_of_mem _ (List.mem_append_right E' HMC.out)))
     (try simp only at Rq yq Zq Rc yc)
     go_wp2_with fail
     refine (HSH.out _).mono ?_; rintro r w11 ⟨rfl, X11⟩; have A12 := A10.pure X11; clear A10 X11 hkc
     (try clear Rq); (try clear yq); (try clear Zq)
     have Rq := cells_of (A12.box _ m0); have yq := blk_lt (A12.box _ m0); have Zq := free_of (A12.box _ m0)
     (try simp only at Rq yq Zq)
     have A13 := A12.put 4 (.int .i64 Z); simp only [List.setIfInBounds_toArray, List.set_cons_zero, List.set_cons_succ] at A13
     go_upto_region 7 with (fail)
     generalize hW : w11.setCell _ _ = w13 at *; clear hW A12
     (try clear Rq); (try clear yq); (try clear Zq)
     have Rq := cells_of (A13.box _ m0); have yq := blk_lt (A13.box _ m0)
     (try clear Rr); (try clear yr); (try clear Zr)
     have Rr := cells_of (A13.box _ (List.mem_cons_of_mem _ (List.mem_append_right E' HMR.out))); have yr := blk_lt (A13.box _ (List.mem_cons_of_mem _ (List.mem_append_right E' HMR.out))); have Zr := free_of (A13.box _ (List.mem_cons_of_mem _ (List.mem_append_right E' HMR.out)))
     (try simp only at Rq yq Rr yr Zr)
     go_wp2_with fail
     have A14 := (Ats.outR A13 HK2.out).putO ck false n 0 Z ⟨#[]⟩; have R14 := cells_of (A14.box _ m0); refine bodyPost_ret (v := .tuple #[O.val (⟨ck, false, n, 0, Z, ⟨#[]⟩⟩ : O), .int .i64 0]) ?_ rfl ⟨rfl, E', HR9.out, A14.keep (List.sublist_cons_self _ _)⟩; simp [results, Tryz.results66, go_sem, R14]
theorem rmake_h {ck : Int} {vi vb : Value} {clk : Bool} (H : RefK J0 gp L E) (A : Ats w0 w M (E ++ K)) (hc : CellIn E c [.int .i64 ck, vi, vb, .bool clk]) (hb : c.size ≤ 100000) (hr : makeH L c = (L', o, e)) :
 Calls Tryz.prog 66 #[ptr gp, .agg #[.int .i64 ck, vi, vb, .bool clk]] w fun r w' => r = .returned (.tuple #[o.val, .int .i64 e]) ∧ ∃ E', RefK J0 gp L' E' ∧ Ats w0 w' M (E' ++ K) := by
 unfold makeH at hr
 by_cases he : addE L c = 0
 · rw [if_neg (by simp [he])] at hr; simp only [Prod.mk.injEq] at hr; obtain ⟨rfl, rfl, rfl⟩ := hr; exact rmake_ok H A hc hb he
 · rw [if_pos he] at hr; simp only [Prod.mk.injEq] at hr; obtain ⟨rfl, rfl, rfl⟩ := hr
   exact (rmake_err H A hc hb he).mono fun e w' h => ⟨h.1, E, H, h.2⟩
theorem str_in (w : World) (s : ByteArray) (hs : s.size ≤ 40000) (J : List (Nat × Obj)) : RowIn ((w.heap.size, .cells (strCells w s) 5 ((strCells w s).size, (strCells w s).size + 1)) :: J) 5 1 (.slice (some ⟨w.heap.size, 0, none⟩) s.size (strCap w s)) s.size (s.toList.map vu8) := by
 have e : s.toList.length = s.size := by rw [ByteArray.toList_eq]; rfl
 refine .inr ⟨w.heap.size, strCap w s, strCells w s, _, rfl, List.mem_cons_self .., strCap_ge w s, strCap_le w s (by unfold maxLen; omega), by rw [strCells_size]; omega, ?_, by simp [e]⟩; simp only [strCells, Array.toList_append, Nat.mul_one, Array.toList_map]; rw [List.take_append_of_le_length (by simp), ByteArray.toList_eq, List.take_of_length_le (by simp)]
set_option maxRecDepth 100000 in
set_option maxHeartbeats 1000000 in
theorem rstr_any (H : RefK J0 gp L E) (A : Ats w0 w M (E ++ K)) (s : ByteArray) (hr : stringH L s = (L', o, e)) :
 Calls Tryz.prog 85 #[ptr gp, .string s] w fun r w' => r = .returned (.tuple #[o.val, .int .i64 e]) ∧ ∃ E', RefK J0 gp L' E' ∧ Ats w0 w' M (E' ++ K) := by
 unfold stringH at hr; have A1 := A.alloc (Obj.cells #[.int .i64 0, .bool false, .int .i64 0, .int .i64 0, .int .i64 0, .string ⟨#[]⟩] 39)
 by_cases h1 : 40000 < s.size
 · rw [if_pos h1] at hr; simp only [Prod.mk.injEq] at hr; obtain ⟨rfl, rfl, rfl⟩ := hr
   have h1' : (40000 : Int) < (s.size : Int) := by omega
   clear h1; go_enter Tryz.func85, Tryz.ntmps85
   go_wp2_with fail
   refine bodyPost_ret (v := .tuple #[O.nil.val, .int .i64 5]) (by simp [results, Tryz.results85, go_sem, O.nil]) rfl ⟨rfl, E, H, A1.keep (List.sublist_cons_self _ _)⟩
 · rw [if_neg h1] at hr
   have h1' : (s.size : Int) ≤ 40000 := by omega
   have hcv := fun W => run_str_bytes s W; have A2 := A1.got (strW_chg _ s) (strW_blk _ s) (Nat.le_refl _); have A3 : Ats w0 (strW (w.alloc (Obj.cells #[.int .i64 0, .bool false, .int .i64 0, .int .i64 0, .int .i64 0, .string ⟨#[]⟩] 39)) s) M ((((w.alloc (Obj.cells #[.int .i64 0, .bool false, .int .i64 0, .int .i64 0, .int .i64 0, .string ⟨#[]⟩] 39)).heap.size, Obj.cells (strCells (w.alloc (Obj.cells #[.int .i64 0, .bool false, .int .i64 0, .int .i64 0, .int .i64 0, .string ⟨#[]⟩] 39)) s) 5 ((strCells (w.alloc (Obj.cells #[.int .i64 0, .bool false, .int .i64 0, .int .i64 0, .int .i64 0, .string ⟨#[]⟩] 39)) s).size, (strCells (w.alloc (Obj.cells #[.int .i64 0, .bool false, .int .i64 0, .int .i64 0, .int .i64 0, .string ⟨#[]⟩] 39)) s).size + 1)) :: E) ++ ((w.heap.size, Obj.cells #[.int .i64 0, .bool false, .int .i64 0, .int .i64 0, .int .i64 0, .string ⟨#[]⟩] 39) :: K)) := A2.perm (List.perm_middle.symm.cons _); have H3 := H.more ((w.alloc (Obj.cells #[.int .i64 0, .bool false, .int .i64 0, .int .i64 0, .int .i64 0, .string ⟨#[]⟩] 39)).heap.size, Obj.cells (strCells (w.alloc (Obj.cells #[.int .i64 0, .bool false, .int .i64 0, .int .i64 0, .int .i64 0, .string ⟨#[]⟩] 39)) s) 5 ((strCells (w.alloc (Obj.cells #[.int .i64 0, .bool false, .int .i64 0, .int .i64 0, .int .i64 0, .string ⟨#[]⟩] 39)) s).size, (strCells (w.alloc (Obj.cells #[.int .i64 0, .bool false, .int .i64 0, .int .i64 0, .int .i64 0, .string ⟨#[]⟩] 39)) s).size + 1))
   have hsl : s.toList.length = s.size := by rw [ByteArray.toList_eq]; rfl
   have hci := str_in (w.alloc (Obj.cells #[.int .i64 0, .bool false, .int .i64 0, .int .i64 0, .int .i64 0, .string ⟨#[]⟩] 39)) s (by omega) E
   have hc : CellIn (((w.alloc (Obj.cells #[.int .i64 0, .bool false, .int .i64 0, .int .i64 0, .int .i64 0, .string ⟨#[]⟩] 39)).heap.size, Obj.cells (strCells (w.alloc (Obj.cells #[.int .i64 0, .bool false, .int .i64 0, .int .i64 0, .int .i64 0, .string ⟨#[]⟩] 39)) s) 5 ((strCells (w.alloc (Obj.cells #[.int .i64 0, .bool false, .int .i64 0, .int .i64 0, .int .i64 0, .string ⟨#[]⟩] 39)) s).size, (strCells (w.alloc (Obj.cells #[.int .i64 0, .bool false, .int .i64 0, .int .i64 0, .int .i64 0, .string ⟨#[]⟩] 39)) s).size + 1)) :: E) ⟨true, false, false, [], s.toList⟩ [.int .i64 8, .slice none 0 0, .slice (some ⟨(w.alloc (Obj.cells #[.int .i64 0, .bool false, .int .i64 0, .int .i64 0, .int .i64 0, .string ⟨#[]⟩] 39)).heap.size, 0, none⟩) s.size (strCap (w.alloc (Obj.cells #[.int .i64 0, .bool false, .int .i64 0, .int .i64 0, .int .i64 0, .string ⟨#[]⟩] 39)) s), .bool false] :=
    ⟨_, _, rfl, .inl ⟨rfl, rfl, rfl⟩, by simp only; rw [hsl]; exact hci, fun _ => rfl, fun h => by simp at h⟩
   have HM := rmake_h H3 A3 hc (by simp only [C.size, if_true]; rw [hsl]; omega) hr; simp only [World.size_alloc] at HM; have HM := hid' HM; clear hc hci H3 A3 A2 hsl h1 A1 hr; obtain ⟨ok, ox, on, op, ol, os⟩ := o; go_enter Tryz.func85, Tryz.ntmps85
   go_wp2_with fail
   refine HM.out.mono ?_; rintro r w2 ⟨rfl, E', H', A4⟩; have A5 := A4.perm List.perm_middle
   (try clear Rr); (try clear yr); (try clear Zr)
   have Rr := cells_of (A5.box _ m0); have yr := blk_lt (A5.box _ m0); have Zr := free_of (A5.box _ m0)
   (try simp only at Rr yr Zr)
   have A6 := A5.putO ok ox on op ol os; go_wp2_with fail
   have R6 := cells_of (A6.box _ m0); refine bodyPost_ret (v := .tuple #[O.val (⟨ok, ox, on, op, ol, os⟩ : O), .int .i64 e]) ?_ rfl ⟨rfl, E', H', A6.keep (List.sublist_cons_self _ _)⟩; simp [results, Tryz.results85, go_sem, R6]
theorem comp_any (o : O) (w : World) : Calls Tryz.prog 92 #[o.val] w fun e w' => e = .returned (.bool (held o)) ∧ Chg NoB w w' := by
 obtain ⟨k, ex, n, a, l, s⟩ := o; have Hm : Hid (held ⟨k, ex, n, a, l, s⟩ = (k == 9 || k == 8 || k == 10)) := rfl; go_enter Tryz.func92, Tryz.ntmps92
 go_wp2_with fail
 all_goals
  go_ret; refine ⟨?_, (Chg.refl _ _).alloc _⟩; rw [Hm.out]
  simp_all
theorem RefK.cell (H : RefK J0 gp L E) {i : Nat} {c : C} (hc : L[i]? = some c) :
 ∃ g cap cur vi vb, (gp, refBox (.slice (some ⟨g, 0, none⟩) L.length cap)) ∈ E ∧ L.length ≤ cap ∧ (g, Obj.cells cur 108) ∈ E ∧ i < L.length ∧ CellIn E c [.int .i64 c.kind, vi, vb, .bool c.locked] ∧
  cur[i * 4]? = some (.int .i64 c.kind) ∧ cur[i * 4 + 1]? = some vi ∧ cur[i * 4 + 2]? = some vb ∧ cur[i * 4 + 3]? = some (.bool c.locked) := by
 have hi := (List.getElem?_eq_some_iff.1 hc).1; obtain ⟨lv, hb, hrow⟩ := H.parts
 rcases hrow with ⟨rfl, -⟩ | ⟨g, cap, cur, rfl, hcap, hg, hpos, hcell⟩
 · simp at hi
 · obtain ⟨vs, ⟨vi, vb, rfl, h6, h1, t1, t2⟩, hv⟩ := hcell i c hc; have v0 := hv 0 (by omega); have v1 := hv 1 (by omega); have v2 := hv 2 (by omega); have v3 := hv 3 (by omega); simp only [List.getElem?_cons_zero, List.getElem?_cons_succ, Nat.add_zero] at v0 v1 v2 v3; exact ⟨g, cap, cur, vi, vb, hb, hcap, hg, hi, ⟨vi, vb, rfl, h6, h1, t1, t2⟩, v0, v1, v2, v3⟩
theorem cell_le (hc : L[i]? = some c) (hu : used L ≤ 40000) : c.size ≤ 40000 := by
 have h1 := used_take L i c hc; have h2 := used_le L (i + 1); omega
set_option maxRecDepth 100000 in
set_option maxHeartbeats 1000000 in
theorem rhmay_any (H : RefK J0 gp L E) (A : Ats w0 w M K) (hE : ∀ q ∈ E, q ∈ K) (o : O) {b : Bool} (hr : mayH L o = b) :
 Calls Tryz.prog 50 #[ptr gp, o.val] w fun e w' => e = .returned (.bool b) ∧ Ats w0 w' M K := by
 obtain ⟨kk, kx, kn, kp, kl, ks⟩ := o; subst hr
 obtain ⟨KL, A1, mk, hKK, hsub⟩ : ∃ KL, Ats w0 (w.alloc (Obj.cells #[.int .i64 kk, .bool kx, .int .i64 kn, .int .i64 kp, .int .i64 kl, .string ks] 39)) M KL ∧ (w.heap.size, Obj.cells #[.int .i64 kk, .bool kx, .int .i64 kn, .int .i64 kp, .int .i64 kl, .string ks] 39) ∈ KL ∧ (∀ q ∈ K, q ∈ KL) ∧ K.Sublist KL := ⟨_, A.alloc _, m0, fun q hq => List.mem_cons_of_mem _ hq, List.sublist_cons_self _ _⟩
 have hMAY := fun W => rmay_any ⟨kk, kx, kn, kp, kl, ks⟩ W; have hCMP := fun W => comp_any ⟨kk, kx, kn, kp, kl, ks⟩ W
 by_cases hm : mayO ⟨kk, kx, kn, kp, kl, ks⟩ = false
 · have hf : mayH L ⟨kk, kx, kn, kp, kl, ks⟩ = false := by simp [mayH, hm]
   rw [hf]; simp only [hm] at hMAY; clear hf hm; go_enter Tryz.func50, Tryz.ntmps50
   go_wp2_with fail
   refine (hMAY _).mono ?_; rintro e w1 ⟨rfl, X1⟩; have A2 := A1.pure X1; clear A1 X1; go_wp2_with fail
   go_ret; exact ⟨rfl, A2.keep hsub⟩
 simp only [Bool.not_eq_false] at hm
 by_cases hh : held ⟨kk, kx, kn, kp, kl, ks⟩ = false
 · have hf : mayH L ⟨kk, kx, kn, kp, kl, ks⟩ = true := by simp [mayH, hm, hh]
   rw [hf]; simp only [hm] at hMAY; simp only [hh] at hCMP; clear hf hm hh; go_enter Tryz.func50, Tryz.ntmps50
   go_wp2_with fail
   refine (hMAY _).mono ?_; rintro e w1 ⟨rfl, X1⟩; have A2 := A1.pure X1; clear A1 X1
   (try clear Rk); (try clear yk); (try clear Zk)
   have Rk := cells_of (A2.box _ mk); have yk := blk_lt (A2.box _ mk)
   (try simp only at Rk yk)
   go_wp2_with fail
   refine (hCMP _).mono ?_; rintro e w2 ⟨rfl, X2⟩; have A3 := A2.pure X2; clear A2 X2; go_wp2_with fail
   go_ret; exact ⟨rfl, A3.keep hsub⟩
 simp only [Bool.not_eq_false] at hh; obtain ⟨n0, n1, a0, a1, l0, l1⟩ := mayO_held hm hh; simp only at n0 n1 a0 a1 l0 l1
 obtain ⟨N, rfl⟩ : ∃ N : Nat, kn = N := ⟨kn.toNat, by omega⟩
 have hN : ((⟨kk, kx, N, kp, kl, ks⟩ : O).n).toNat = N := by simp
 by_cases hn : L.length ≤ N
 · have hf : mayH L ⟨kk, kx, N, kp, kl, ks⟩ = false := by simp [mayH, hm, hh]; omega
   rw [hf]; obtain ⟨lv, hb, hrow⟩ := H.parts
   obtain ⟨al, cap, rfl⟩ : ∃ al cap, lv = .slice al L.length cap := by
    rcases hrow with ⟨rfl, rfl⟩ | ⟨g, cap, cur, rfl, -⟩
    · exact ⟨none, 0, rfl⟩
    · exact ⟨_, _, rfl⟩
   have hbK := hKK _ (hE _ hb)
   have hd : decide ((N : Int) < (L.length : Int)) = false := by simp; omega
   have hd2 : decide (N < L.length) = false := by simp; omega
   simp only [hm] at hMAY; simp only [hh] at hCMP; clear hf hm hh hrow hb H hE hN hn; generalize L.length = nl at *; go_enter Tryz.func50, Tryz.ntmps50
   go_wp2_with fail
   refine (hMAY _).mono ?_; rintro e w1 ⟨rfl, X1⟩; have A2 := A1.pure X1; clear A1 X1
   (try clear Rk); (try clear yk); (try clear Zk)
   have Rk := cells_of (A2.box _ mk); have yk := blk_lt (A2.box _ mk)
   (try simp only at Rk yk)
   go_wp2_with fail
   refine (hCMP _).mono ?_; rintro e w2 ⟨rfl, X2⟩; have A3 := A2.pure X2; clear A2 X2
   (try clear Rk); (try clear yk); (try clear Zk)
   have Rk := cells_of (A3.box _ mk); have yk := blk_lt (A3.box _ mk)
   (try clear Rg); (try clear yg); (try clear Zg)
   have Rg := cells_of (A3.box _ hbK); have yg := blk_lt (A3.box _ hbK)
   (try simp only at Rk yk Rg yg)
   go_wp2_with fail
   go_quiet (fail)
   go_wp2_with fail
   go_ret; exact ⟨rfl, (A3.keep hsub).pure ((Chg.refl NoB w2).drewN nq)⟩
 · obtain ⟨c, hc⟩ : ∃ c, L[N]? = some c := ⟨L[N]'(by omega), List.getElem?_eq_getElem _⟩
   have hsz := cell_le hc H.bounds.2
   have hf : mayH L ⟨kk, kx, N, kp, kl, ks⟩ = (decide (c.kind = kk) && decide (kp + kl ≤ c.size)) := by
    simp [mayH, hm, hh, hc]; omega
   rw [hf]; obtain ⟨g, cap, cur, vi, vb, hb, hcap, hg, hi, hcell, v0, v1, v2, v3⟩ := H.cell hc; have hz := hcell.size; obtain ⟨vi', vb', hvs, hi6, hb1, -⟩ := hcell; simp only [List.cons.injEq, true_and, and_true] at hvs; obtain ⟨rfl, rfl⟩ := hvs; obtain ⟨ai, ci, rfl, -⟩ := hi6.slice; obtain ⟨ab, cb, rfl, -⟩ := hb1.slice; have HS := fun w' => rsize_any c.kind ai ab c.items.length ci c.bytes.length cb c.locked (by omega) (by omega) w'; rw [hz] at HS; have hbK := hKK _ (hE _ hb); have hgK := hKK _ (hE _ hg)
   have hd : decide ((N : Int) < (L.length : Int)) = true := by simp; omega
   have hcapi : (N : Int) < cap := by omega
   have s0 : (0 : Int) ≤ c.size := by omega
   have s1 : (c.size : Int) ≤ 40000 := by omega
   obtain ⟨Z, hZ⟩ : ∃ Z : Int, (c.size : Int) = Z := ⟨_, rfl⟩
   rw [hZ] at HS s0 s1; simp only [hZ]; simp only [hm] at hMAY; simp only [hh] at hCMP
   have hni : (N : Int) < L.length := by omega
   clear hf hm hh H hE hN hn hc hsz hz hi6 hb1 hZ hg hb hi; generalize L.length = nl at *; generalize c.items.length = ni at *; generalize c.bytes.length = nb at *; generalize c.kind = ck at *; generalize c.locked = clk at *; have HSH := hid' HS; clear HS
   by_cases hk : ck = kk
   · have hk1 : decide (ck = kk) = true := by simpa using hk
     rw [hk1, Bool.true_and]; subst hk; have wr := IntWalk.i64_in (kp + kl) (by omega); go_enter Tryz.func50, Tryz.ntmps50
     go_wp2_with fail
     refine (hMAY _).mono ?_; rintro e w1 ⟨rfl, X1⟩; have A2 := A1.pure X1; clear A1 X1
     (try clear Rk); (try clear yk); (try clear Zk)
     have Rk := cells_of (A2.box _ mk); have yk := blk_lt (A2.box _ mk)
     (try simp only at Rk yk)
     go_wp2_with fail
     refine (hCMP _).mono ?_; rintro e w2 ⟨rfl, X2⟩; have A3 := A2.pure X2; clear A2 X2; have Rk := AnyA.cells (w0 := w0) (M := M) mk; have Rg := AnyA.cells (w0 := w0) (M := M) hbK; have Rr := AnyA.cells (w0 := w0) (M := M) hgK; have hS1 : AnyA w0 M KL w2 := A3
     go_upto_region 5 with (fail)
     go_region_held3 (fun W' => AnyA w0 M KL W') (first | (with_reducible assumption) | (with_reducible exact AnyA.pure (by with_reducible assumption) (by with_reducible assumption)) | (with_reducible exact AnyA.drew (by with_reducible assumption)))
      (first | (go_at_call 54; refine (HSH.out _).mono ?_; rintro r w5 ⟨rfl, X5⟩))
     go_wp2_with fail
     go_ret
     have hA5 : AnyA w0 M KL w5 := by assumption
     exact ⟨rfl, Ats.keep hA5 hsub⟩
   · have hk1 : decide (ck = kk) = false := by simpa using hk
     rw [hk1, Bool.false_and]; go_enter Tryz.func50, Tryz.ntmps50
     go_wp2_with fail
     refine (hMAY _).mono ?_; rintro e w1 ⟨rfl, X1⟩; have A2 := A1.pure X1; clear A1 X1
     (try clear Rk); (try clear yk); (try clear Zk)
     have Rk := cells_of (A2.box _ mk); have yk := blk_lt (A2.box _ mk)
     (try simp only at Rk yk)
     go_wp2_with fail
     refine (hCMP _).mono ?_; rintro e w2 ⟨rfl, X2⟩; have A3 := A2.pure X2; clear A2 X2
     (try clear Rk); (try clear yk); (try clear Zk)
     have Rk := cells_of (A3.box _ mk); have yk := blk_lt (A3.box _ mk)
     (try clear Rg); (try clear yg); (try clear Zg)
     have Rg := cells_of (A3.box _ hbK); have yg := blk_lt (A3.box _ hbK)
     (try clear Rr); (try clear yr); (try clear Zr)
     have Rr := cells_of (A3.box _ hgK); have yr := blk_lt (A3.box _ hgK)
     (try simp only at Rk yk Rg yg Rr yr)
     go_wp2_with fail
     go_quiet (fail)
     go_wp2_with fail
     go_ret; exact ⟨rfl, (A3.keep hsub).pure ((Chg.refl NoB w2).drewN nq)⟩
set_option maxRecDepth 100000 in
theorem rnulls_any (n : Nat) (hn : n ≤ 1000000) (w : World) :
 Calls Tryz.prog 65 #[.int .i64 n] w fun e w' => e = .returned (.slice (some ⟨w.heap.size, 0, none⟩) n n) ∧ Chg NoB w w' ∧
  ∃ cur : Array Value, w'.heap[w.heap.size]? = some (.cells cur 39 (0, 0)) ∧ cur.toList = (List.replicate n nullO).flatMap O.cells := by
 have hmk := run_make_objs n hn w; go_enter Tryz.func65, Tryz.ntmps65
 go_wp2
 go_loopw [4] (fun i9 wr => ∃ (k : Nat) (cur : Array Value), k ≤ n ∧ i9 = .int .i64 k ∧ wr.heap[w.heap.size]? = some (.cells cur 39 (0, 0)) ∧ cur.toList = (List.replicate k nullO ++ List.replicate (n - k) O.nil).flatMap O.cells ∧ Chg NoB w wr) (fun i9 _ => n - (intOf i9).toNat)
 case atStart => exact ⟨0, _, Nat.zero_le _, rfl, blk_new w _, by simp [zrow_toList], (Chg.refl _ _).alloc _⟩
 case round =>
  obtain ⟨k, cur, hk, rfl, hc, hl, X⟩ := hrel; have R := cells_of hc; have Z := free_of hc; have lc := blk_lt hc
  by_cases hlt : k < n
  · have e0 : cur[k * 6]? = some (.int .i64 0) := by
     have := flat_get O.cells 6 cells_length 0 (by omega) (List.replicate k nullO ++ List.replicate (n - k) O.nil) k; rw [← hl] at this; simp only [Nat.add_zero, Array.getElem?_toList] at this; rw [this, List.getElem?_append_right (by simp)]; simp [show 0 < n - k by omega, O.cells, O.nil]
    have HL := Hid.mk'' hl; clear hl hmk; go_wp2
    go_roundw
    case rel =>
     refine ⟨k + 1, _, by omega, by go_num, blk_set hc (k * 6) (.int .i64 1), ?_, X.setCell (.inr (Nat.le_refl _)) _⟩; rw [Array.toList_setIfInBounds, HL.out, ← rep_set n k hlt]; refine (flat_set0 _ k (by simp; omega) nullO _ ?_).symm; rw [List.getElem_append_right (by simp)]; simp [O.cells, O.nil, nullO]
    case measure => simp [intOf]; omega
  · have hkn : k = n := by omega
    subst hkn; go_wp2
    go_ret; exact ⟨rfl, X, cur, hc, by simpa using hl⟩
theorem nulls_in {b n : Nat} {cur : Array Value} {l : List O} (hl : cur.toList = l.flatMap O.cells) (hn : l.length = n) (hb : n ≤ 1000000) (J : List (Nat × Obj)) : RowIn ((b, Obj.cells cur 39) :: J) 39 6 (.slice (some ⟨b, 0, none⟩) n n) n (l.flatMap O.cells) := by
 have e := flat_length O.cells 6 cells_length l; refine .inr ⟨b, n, cur, _, rfl, List.mem_cons_self .., Nat.le_refl _, by unfold maxLen; omega, ?_, ?_, by rw [e, hn]⟩
 · have := congrArg List.length hl; rw [e, hn] at this
   simpa using this
 · rw [hl, List.take_of_length_le (by rw [e, hn]; exact Nat.le_refl _)]
set_option maxRecDepth 100000 in
set_option maxHeartbeats 1000000 in
theorem rarray_any (H : RefK J0 gp L E) (A : Ats w0 w M (E ++ K)) (n : Int) (hr : arrayH L n = (L', o, e)) :
 Calls Tryz.prog 82 #[ptr gp, .int .i64 n] w fun r w' => r = .returned (.tuple #[o.val, .int .i64 e]) ∧ ∃ E', RefK J0 gp L' E' ∧ Ats w0 w' M (E' ++ K) := by
 unfold arrayH at hr; have A1 := A.alloc (Obj.cells #[.int .i64 0, .bool false, .int .i64 0, .int .i64 0, .int .i64 0, .string ⟨#[]⟩] 39)
 by_cases h1 : 40000 < n
 · rw [if_pos h1] at hr; simp only [Prod.mk.injEq] at hr; obtain ⟨rfl, rfl, rfl⟩ := hr; go_enter Tryz.func82, Tryz.ntmps82
   go_wp2_with fail
   refine bodyPost_ret (v := .tuple #[O.nil.val, .int .i64 5]) (by simp [results, Tryz.results82, go_sem, O.nil]) rfl ⟨rfl, E, H, A1.keep (List.sublist_cons_self _ _)⟩
 rw [if_neg h1] at hr
 by_cases h2 : n < 0
 · rw [if_pos h2] at hr; simp only [Prod.mk.injEq] at hr; obtain ⟨rfl, rfl, rfl⟩ := hr; go_enter Tryz.func82, Tryz.ntmps82
   go_wp2_with fail
   refine bodyPost_ret (v := .tuple #[O.nil.val, .int .i64 2]) (by simp [results, Tryz.results82, go_sem, O.nil]) rfl ⟨rfl, E, H, A1.keep (List.sublist_cons_self _ _)⟩
 rw [if_neg h2] at hr; obtain ⟨k, rfl⟩ := Int.eq_ofNat_of_zero_le (show 0 ≤ n by omega)
 have hk : k ≤ 40000 := by omega
 rw [Int.toNat_natCast] at hr; obtain ⟨ok, ox, on, op, ol, os⟩ := o; have HRR := hid' hr; clear hr; go_enter Tryz.func82, Tryz.ntmps82
 go_wp2_with fail
 refine (rnulls_any k (by omega) _).mono ?_; rintro r w1 ⟨rfl, X1, cur, hcur, hl⟩; have A2 := A1.got X1 hcur (Nat.le_refl _); simp only [World.size_alloc] at A2; have A3 : Ats w0 w1 M (((w.heap.size + 1, Obj.cells cur 39) :: E) ++ ((w.heap.size, Obj.cells #[.int .i64 0, .bool false, .int .i64 0, .int .i64 0, .int .i64 0, .string ⟨#[]⟩] 39) :: K)) := A2.perm (List.perm_middle.symm.cons _); have H3 := H.more (w.heap.size + 1, Obj.cells cur 39)
 have hc : CellIn ((w.heap.size + 1, Obj.cells cur 39) :: E) ⟨false, false, false, List.replicate k nullO, []⟩ [.int .i64 9, .slice (some ⟨w.heap.size + 1, 0, none⟩) k k, .slice none 0 0, .bool false] :=
  ⟨_, _, rfl, by simp only; rw [List.length_replicate]; exact nulls_in hl (by simp) (by omega) E, .inl ⟨rfl, rfl, rfl⟩, fun h => by simp at h, fun _ => rfl⟩
 have HM := rmake_h H3 A3 hc (by simp only [C.size, Bool.false_eq_true, if_false, List.length_replicate]; omega) HRR.out; have HM := hid' HM; clear hc H3 A3 A2 A1 A X1 hcur hl HRR; go_wp2_with fail
 refine HM.out.mono ?_; rintro r w2 ⟨rfl, E', H', A4⟩; have A5 := A4.perm List.perm_middle
 (try clear Rr); (try clear yr); (try clear Zr)
 have Rr := cells_of (A5.box _ m0); have yr := blk_lt (A5.box _ m0); have Zr := free_of (A5.box _ m0)
 (try simp only at Rr yr Zr)
 have A6 := A5.putO ok ox on op ol os; go_wp2_with fail
 have R6 := cells_of (A6.box _ m0); refine bodyPost_ret (v := .tuple #[O.val (⟨ok, ox, on, op, ol, os⟩ : O), .int .i64 e]) ?_ rfl ⟨rfl, E', H', A6.keep (List.sublist_cons_self _ _)⟩; simp [results, Tryz.results82, go_sem, R6]
abbrev cntO : O := ⟨3, false, 0, 0, 0, ⟨#[]⟩⟩
def six (cur : Array Value) (p : Nat) (o : O) : Array Value := (((((cur.setIfInBounds p (.int .i64 o.kind)).setIfInBounds (p + 1) (.bool o.exec)).setIfInBounds (p + 2) (.int .i64 o.n)).setIfInBounds (p + 3) (.int .i64 o.pos)).setIfInBounds (p + 4) (.int .i64 o.len)).setIfInBounds (p + 5) (.string o.s)
theorem six_first {cur : Array Value} {n : Nat} (hl : cur.toList = (List.replicate (n + 1) nullO).flatMap O.cells) (o : O) : (six cur 0 o).toList = (o :: List.replicate n nullO).flatMap O.cells := by
 unfold six; simp only [Array.toList_setIfInBounds, hl, List.replicate_succ, List.flatMap_cons, O.cells, nullO, List.cons_append, List.set_cons_zero, List.set_cons_succ, Nat.zero_add]
set_option maxRecDepth 100000 in
set_option maxHeartbeats 1000000 in
theorem rdict_any (H : RefK J0 gp L E) (A : Ats w0 w M (E ++ K)) (n : Int) (hr : dictH L n = (L', o, e)) :
 Calls Tryz.prog 32 #[ptr gp, .int .i64 n] w fun r w' => r = .returned (.tuple #[o.val, .int .i64 e]) ∧ ∃ E', RefK J0 gp L' E' ∧ Ats w0 w' M (E' ++ K) := by
 unfold dictH at hr; have A1 := A.alloc (Obj.cells #[.int .i64 0, .bool false, .int .i64 0, .int .i64 0, .int .i64 0, .string ⟨#[]⟩] 39)
 by_cases h1 : n < 0 ∨ 1000 < n
 · rw [if_pos h1] at hr; simp only [Prod.mk.injEq] at hr; obtain ⟨rfl, rfl, rfl⟩ := hr
   have h2 : n < 0 ∨ (0 ≤ n ∧ 1000 < n) := by omega
   clear h1
   rcases h2 with h1 | ⟨h1, h2⟩
   all_goals
    go_enter Tryz.func32, Tryz.ntmps32
    go_wp2_with fail
    refine bodyPost_ret (v := .tuple #[O.nil.val, .int .i64 2]) (by simp [results, Tryz.results32, go_sem, O.nil]) rfl ⟨rfl, E, H, A1.keep (List.sublist_cons_self _ _)⟩
 rw [if_neg h1] at hr; obtain ⟨k, rfl⟩ := Int.eq_ofNat_of_zero_le (show 0 ≤ n by omega)
 have hk : k ≤ 1000 := by omega
 rw [Int.toNat_natCast] at hr; obtain ⟨ok, ox, on, op, ol, os⟩ := o; have HRR := hid' hr
 have hki : (k : Int) ≤ 1000 := by omega
 have wr1 := IntWalk.i64_in (2 * (k : Int)) (by omega)
 have wr2 : IntKind.i64.wrap (2 * (k : Int) + 1) = ((2 * k + 1 : Nat) : Int) := by rw [IntWalk.i64_in _ (by omega)]; push_cast; rfl
 obtain ⟨n1, hn1⟩ : ∃ n1, 2 * k + 1 = n1 := ⟨_, rfl⟩
 rw [hn1] at wr2; have HN1 := hid' hn1
 have hn1p : 0 < n1 := by omega
 have hn1i : (0 : Int) < n1 := by omega
 clear hr h1 hn1; go_enter Tryz.func32, Tryz.ntmps32
 go_wp2_with fail
 refine (rnulls_any n1 (by have := HN1.out; omega) _).mono ?_; rintro r w1 ⟨rfl, X1, cur, hcur, hl⟩; have A2 := A1.got X1 hcur (Nat.le_refl _); simp only [World.size_alloc] at A2; have HL := hid' hl; clear X1 hcur hl A1
 (try clear Rb); (try clear yb); (try clear Zb)
 have Rb := cells_of (A2.box _ m0); have yb := blk_lt (A2.box _ m0); have Zb := free_of (A2.box _ m0)
 (try simp only at Rb yb Zb)
 have A2b := (((((A2.put 0 (.int .i64 3)).put 1 (.bool false)).put 2 (.int .i64 0)).put 3 (.int .i64 0)).put 4 (.int .i64 0)).put 5 (.string ⟨#[]⟩)
 have hc0 : cur[0]? = some (.int .i64 1) ∧ cur[1]? = some (.bool false) ∧ cur[2]? = some (.int .i64 0) ∧ cur[3]? = some (.int .i64 0) ∧ cur[4]? = some (.int .i64 0) ∧ cur[5]? = some (.string ⟨#[]⟩) := by
  obtain ⟨m, rfl⟩ : ∃ m, n1 = m + 1 := ⟨n1 - 1, by omega⟩
  simp only [← Array.getElem?_toList, HL.out, List.replicate_succ, List.flatMap_cons, O.cells, nullO, List.cons_append, List.getElem?_cons_zero, List.getElem?_cons_succ, and_self]
 obtain ⟨d0, d1, d2, d3, d4, d5⟩ := hc0
 go_upto_region 5 with (fail)
 generalize hW : (World.setCell _ _ _) = w3 at *; clear hW A2; have A3 : Ats w0 w3 M (((w.heap.size + 1, Obj.cells (six cur 0 cntO) 39) :: E) ++ ((w.heap.size, Obj.cells #[.int .i64 0, .bool false, .int .i64 0, .int .i64 0, .int .i64 0, .string ⟨#[]⟩] 39) :: K)) := A2b.perm (List.perm_middle.symm.cons _); have H3 := H.more (w.heap.size + 1, Obj.cells (six cur 0 cntO) 39); have hl2 : (six cur 0 cntO).toList = (cntO :: List.replicate (2 * k) nullO).flatMap O.cells := six_first (n := 2 * k) (by rw [HL.out, HN1.out]) cntO
 have hc : CellIn ((w.heap.size + 1, Obj.cells (six cur 0 cntO) 39) :: E) ⟨false, true, false, cntO :: List.replicate (2 * k) nullO, []⟩ [.int .i64 10, .slice (some ⟨w.heap.size + 1, 0, none⟩) n1 n1, .slice none 0 0, .bool false] :=
  ⟨_, _, rfl, by simp only; rw [List.length_cons, List.length_replicate, HN1.out]; exact nulls_in hl2 (by simp; exact HN1.out) (by have := HN1.out; omega) E, .inl ⟨rfl, rfl, rfl⟩, fun h => by simp at h, fun _ => rfl⟩
 have HM := rmake_h H3 A3 hc (by simp only [C.size, Bool.false_eq_true, if_false, List.length_cons, List.length_replicate]; omega) HRR.out; have HM := hid' HM; clear hc H3 A3 A2b A HRR Rb yb Zb d0 d1 d2 d3 d4 d5 hl2; go_wp2_with fail
 refine HM.out.mono ?_; rintro r w4 ⟨rfl, E', H', A4⟩; have A5 := A4.perm List.perm_middle
 (try clear Rr); (try clear yr); (try clear Zr)
 have Rr := cells_of (A5.box _ m0); have yr := blk_lt (A5.box _ m0); have Zr := free_of (A5.box _ m0)
 (try simp only at Rr yr Zr)
 have A6 := A5.putO ok ox on op ol os; go_wp2_with fail
 have R6 := cells_of (A6.box _ m0); refine bodyPost_ret (v := .tuple #[O.val (⟨ok, ox, on, op, ol, os⟩ : O), .int .i64 e]) ?_ rfl ⟨rfl, E', H', A6.keep (List.sublist_cons_self _ _)⟩; simp [results, Tryz.results32, go_sem, R6]
theorem take_setIf {α : Type} (cur : Array α) (k n : Nat) (v : α) : (cur.setIfInBounds k v).toList.take n = (cur.toList.take n).set k v := by
 rw [Array.toList_setIfInBounds]; apply List.ext_getElem?
 intro i; simp only [List.getElem?_take, List.getElem?_set, List.length_take, Array.length_toList]
 split <;> rename_i h
 · split
   · split <;> split <;> first | rfl | omega
   · rfl
 · split
   · split <;> first | rfl | omega
   · rfl
theorem joinV_set : ∀ (rows : List (List Value)) (i j : Nat) (vs : List Value) (v : Value), (∀ r ∈ rows, r.length = 4) → rows[i]? = some vs → j < 4 → joinV (rows.set i (vs.set j v)) = (joinV rows).set (i * 4 + j) v
 | [], i, j, vs, v, _, h, _ => by simp at h
 | r :: rows, 0, j, vs, v, hl, h, hj => by
  simp only [List.getElem?_cons_zero, Option.some.injEq] at h; subst h; have := hl r (List.mem_cons_self ..); rw [List.set_cons_zero]; unfold joinV; rw [List.flatMap_cons, List.flatMap_cons, Nat.zero_mul, Nat.zero_add, List.set_append_left _ _ (by simp only [id]; omega)]; rfl
 | r :: rows, i + 1, j, vs, v, hl, h, hj => by
  have h4 := hl r (List.mem_cons_self ..); have := joinV_set rows i j vs v (fun x hx => hl x (List.mem_cons_of_mem _ hx)) (by simpa using h) hj; rw [List.set_cons_succ]; unfold joinV at this ⊢; rw [List.flatMap_cons, List.flatMap_cons, this, List.set_append_right _ _ (by simp only [id]; omega)]
  congr 2
  simp only [id]; omega
theorem sum_setr : ∀ (l : List Nat) (i x : Nat), l[i]? = some x → (l.set i x).sum = l.sum
 | l, i, x, h => by
  have hi := List.getElem?_eq_some_iff.1 h; rw [← hi.2, List.set_getElem_self]
theorem used_set {c' : C} (hc : L[i]? = some c) (hs : c'.size = c.size) : used (L.set i c') = used L := by
 unfold used; rw [List.map_set, hs]; exact sum_setr _ _ _ (by simp [hc])
theorem RefK.open (H : RefK J0 gp L E) {i : Nat} {c : C} (hc : L[i]? = some c) :
 ∃ J g cap cur vi vb, E = J ++ [(g, Obj.cells cur 108), (gp, refBox (.slice (some ⟨g, 0, none⟩) L.length cap))] ∧ L.length ≤ cap ∧ i < L.length ∧ CellIn J c [.int .i64 c.kind, vi, vb, .bool c.locked] ∧
  cur[i * 4]? = some (.int .i64 c.kind) ∧ cur[i * 4 + 1]? = some vi ∧ cur[i * 4 + 2]? = some vb ∧ cur[i * 4 + 3]? = some (.bool c.locked) ∧
  ∀ (J1 : List (Nat × Obj)) (c' : C) (j : Nat) (v : Value), j < 4 → CellIn (J1 ++ J) c' ([.int .i64 c.kind, vi, vb, .bool c.locked].set j v) → c'.size = c.size →
   RefK J0 gp (L.set i c') ((J1 ++ J) ++ [(g, Obj.cells (cur.setIfInBounds (i * 4 + j) v) 108), (gp, refBox (.slice (some ⟨g, 0, none⟩) L.length cap))]) := by
 have hi := (List.getElem?_eq_some_iff.1 hc).1; obtain ⟨J, R, lv, rows, hJ0, rfl, hR, hrl, hrc, h1, h2, hnil⟩ := H
 obtain ⟨vs, hvs⟩ : ∃ vs, rows[i]? = some vs := ⟨rows[i]'(by omega), List.getElem?_eq_getElem _⟩
 have hcell := hrc i c vs hc hvs
 have hl4 : ∀ r ∈ rows, r.length = 4 := fun r hr => by
  obtain ⟨k, hk, rfl⟩ := List.getElem_of_mem hr; exact (hrc k (L[k]'(by omega)) rows[k] (List.getElem?_eq_getElem _) (List.getElem?_eq_getElem _)).len
 rcases hR with ⟨-, h0, -⟩ | ⟨g, cap, cur, rfl, rfl, k1, k2, k3, k4, k5⟩
 · omega
 have hj : ∀ j, j < 4 → cur[i * 4 + j]? = vs[j]? := fun j hj => by
  rw [← joinV_get rows i j vs hl4 hvs hj, ← k4, List.getElem?_take, if_pos (by omega), Array.getElem?_toList]
 have hcell' := hcell; obtain ⟨vi, vb, rfl, hi6, hb1, t1, t2⟩ := hcell'; have v0 := hj 0 (by omega); have v1 := hj 1 (by omega); have v2 := hj 2 (by omega); have v3 := hj 3 (by omega); simp only [List.getElem?_cons_zero, List.getElem?_cons_succ, Nat.add_zero] at v0 v1 v2 v3; refine ⟨J, g, cap, cur, vi, vb, rfl, k1, hi, hcell, v0, v1, v2, v3, fun J1 c' j v hj4 hc' hs => ?_⟩; refine ⟨J1 ++ J, [(g, Obj.cells (cur.setIfInBounds (i * 4 + j) v) 108)], _, rows.set i ([.int .i64 c.kind, vi, vb, .bool c.locked].set j v), fun q hq => List.mem_append_right _ (hJ0 q hq), rfl, ?_, by simp [hrl], ?_, by simpa using h1, by rw [used_set hc hs]; exact h2, fun h => ?_⟩
 · refine .inr ⟨g, cap, _, by simp, rfl, by simpa using k1, k2, by simpa using k3, ?_, ?_⟩
   · rw [take_setIf, List.length_set, k4, joinV_set rows i j _ v hl4 hvs hj4]
   · rw [joinV_set rows i j _ v hl4 hvs hj4, List.length_set, List.length_set, k5]
 · intro m d us hm hu
   by_cases e : m = i
   · subst e; rw [List.getElem?_set_self (by omega)] at hm; rw [List.getElem?_set_self (by omega)] at hu; simp only [Option.some.injEq] at hm hu; subst hm; subst hu; exact hc'
   · rw [List.getElem?_set_ne (by omega)] at hm; rw [List.getElem?_set_ne (by omega)] at hu; exact (hrc m d us hm hu).mono fun q hq => List.mem_append_right _ hq
 · have h7 := congrArg List.length h; rw [List.length_set, List.length_nil] at h7; omega
def roomV (L : List C) (o : O) : Int × Int × Int := if findE L o ≠ 0 then (0, 0, findE L o) else (atOf o, (L[o.n.toNat]?).elim 0 (fun c => lenOf c o), 0)
theorem roomV_bad {a : Int} (hr : roomV L o = (a, n, e)) (h : findE L o ≠ 0) : a = 0 ∧ n = 0 ∧ e = findE L o := by
 rw [roomV, if_pos h] at hr; simp only [Prod.mk.injEq] at hr; exact ⟨hr.1.symm, hr.2.1.symm, hr.2.2.symm⟩
theorem find_cell (h : findE L o = 0) : ∃ c, L[o.n.toNat]? = some c ∧ roomV L o = (atOf o, lenOf c o, 0) ∧ c.kind = o.kind ∧ 0 ≤ o.n ∧ o.n < L.length ∧ 0 ≤ atOf o ∧ 0 ≤ lenOf c o ∧ atOf o + lenOf c o ≤ c.size ∧ held o = true ∧ mayH L o = true := by
 obtain ⟨hh, hm, c, hc, hk, hs, hn⟩ := findE_zero h; obtain ⟨n0, n1, a0, a1, l0, l1⟩ := mayO_held hm hh
 have hM : mayH L o = true := by
  by_cases e : mayH L o = true
  · exact e
  · simp only [Bool.not_eq_true] at e; rw [findE, if_neg (by simp [hh]), if_pos e] at h; simp at h
 refine ⟨c, hc, by rw [roomV, if_neg (by simp [h]), hc]; rfl, hk, n0, hn, ?_, ?_, ?_, hh, hM⟩ <;> simp only [atOf, lenOf] <;> split <;> omega
set_option maxRecDepth 100000 in
set_option maxHeartbeats 1000000 in
theorem rroom_any (H : RefK J0 gp L E) (A : Ats w0 w M K) (hE : ∀ q ∈ E, q ∈ K) (o : O) {a n e : Int} (hr : roomV L o = (a, n, e)) :
 Calls Tryz.prog 70 #[ptr gp, o.val] w fun r w' => r = .returned (.tuple #[.int .i64 a, .int .i64 n, .int .i64 e]) ∧ Ats w0 w' M K := by
 obtain ⟨kk, kx, kn, kp, kl, ks⟩ := o; have hCMP := fun W => comp_any ⟨kk, kx, kn, kp, kl, ks⟩ W
 obtain ⟨KL, A1, mk, hKK, hsub⟩ : ∃ KL, Ats w0 (w.alloc (Obj.cells #[.int .i64 kk, .bool kx, .int .i64 kn, .int .i64 kp, .int .i64 kl, .string ks] 39)) M KL ∧ (w.heap.size, Obj.cells #[.int .i64 kk, .bool kx, .int .i64 kn, .int .i64 kp, .int .i64 kl, .string ks] 39) ∈ KL ∧ (∀ q ∈ K, q ∈ KL) ∧ K.Sublist KL := ⟨_, A.alloc _, m0, fun q hq => List.mem_cons_of_mem _ hq, List.sublist_cons_self _ _⟩
 have hMAY := fun W (A : Ats w0 W M KL) => rhmay_any H A (fun q hq => hKK q (hE q hq)) ⟨kk, kx, kn, kp, kl, ks⟩ rfl
 by_cases hf : findE L ⟨kk, kx, kn, kp, kl, ks⟩ = 0
 · obtain ⟨c, hc, hv, hk, n0, n1, a0, l0, hal, hh, hM⟩ := find_cell hf; rw [hv] at hr; simp only [Prod.mk.injEq] at hr; obtain ⟨hra, hrn, rfl⟩ := hr; simp only at hc hk n0 n1
   obtain ⟨N, rfl⟩ : ∃ N : Nat, kn = N := ⟨kn.toNat, by omega⟩
   rw [Int.toNat_natCast] at hc; obtain ⟨g, cap, cur, vi, vb, hb, hcap, hg, hi, hcell, v0, v1, v2, v3⟩ := H.cell hc; have hbK := hKK _ (hE _ hb); have hgK := hKK _ (hE _ hg); have hcell' := hcell; obtain ⟨vi', vb', hvs, hi6, hb1, ht1, ht2⟩ := hcell'; simp only [List.cons.injEq, true_and, and_true] at hvs; obtain ⟨rfl, rfl⟩ := hvs; obtain ⟨ai, ci, rfl, -⟩ := hi6.slice
   have hcapi : (N : Int) < cap := by omega
   have hn2 : N < L.length := hi; simp only [hh] at hCMP; simp only [hM] at hMAY
   have hsz : kk = 10 → lenOf c ⟨kk, kx, N, kp, kl, ks⟩ = (c.items.length : Int) := fun h10 => by
    simp only [lenOf, h10, if_pos]
    have : c.text = false := by
     cases ht : c.text
     · rfl
     · rw [C.kind, if_pos ht, h10] at hk; simp at hk
    rw [C.size, if_neg (by simp [this])]
   clear hv hf hh hM hc hi6 hb1 ht1 ht2 hcell hE hb hg H
   by_cases h10 : kk = 10
   · have hn' := hsz h10; rw [hrn] at hn'; subst h10; rw [atOf, if_pos rfl] at hra; subst hra; subst hn'; clear hsz hrn hal; generalize L.length = nl at *; generalize c.items.length = ni at *; go_enter Tryz.func70, Tryz.ntmps70
     go_wp2_with fail
     refine (hCMP _).mono ?_; rintro r w1 ⟨rfl, X1⟩; have A2 := A1.pure X1; clear A1 X1
     (try clear Rk); (try clear yk); (try clear Zk)
     have Rk := cells_of (A2.box _ mk); have yk := blk_lt (A2.box _ mk)
     (try simp only at Rk yk)
     go_wp2_with fail
     refine (hMAY _ A2).mono ?_; rintro r w2 ⟨rfl, A3⟩; clear A2
     (try clear Rk); (try clear yk); (try clear Zk)
     have Rk := cells_of (A3.box _ mk); have yk := blk_lt (A3.box _ mk)
     (try clear Rg); (try clear yg); (try clear Zg)
     have Rg := cells_of (A3.box _ hbK); have yg := blk_lt (A3.box _ hbK)
     (try clear Rr); (try clear yr); (try clear Zr)
     have Rr := cells_of (A3.box _ hgK); have yr := blk_lt (A3.box _ hgK)
     (try simp only at Rk yk Rg yg Rr yr)
     go_wp2_with fail
     go_quiet (fail)
     go_wp2_with fail
     go_ret3; exact ⟨rfl, (A3.pure ((Chg.refl NoB w2).drewN nq)).keep hsub⟩
   · rw [atOf, if_neg h10] at hra; rw [lenOf, if_neg h10] at hrn; simp only at hra hrn; subst hra; subst hrn
     have hk10 : (kk == 10) = false := by simpa using h10
     clear hsz hal h10; go_enter Tryz.func70, Tryz.ntmps70
     go_wp2_with fail
     refine (hCMP _).mono ?_; rintro r w1 ⟨rfl, X1⟩; have A2 := A1.pure X1; clear A1 X1
     (try clear Rk); (try clear yk); (try clear Zk)
     have Rk := cells_of (A2.box _ mk); have yk := blk_lt (A2.box _ mk)
     (try simp only at Rk yk)
     go_wp2_with fail
     refine (hMAY _ A2).mono ?_; rintro r w2 ⟨rfl, A3⟩; clear A2
     (try clear Rk); (try clear yk); (try clear Zk)
     have Rk := cells_of (A3.box _ mk); have yk := blk_lt (A3.box _ mk)
     (try simp only at Rk yk)
     go_wp2_with fail
     go_quiet (fail)
     go_wp2_with fail
     go_ret3; exact ⟨rfl, (A3.pure ((Chg.refl NoB w2).drewN nq)).keep hsub⟩
 · obtain ⟨rfl, rfl, he⟩ := roomV_bad hr hf; rw [findE] at he
   by_cases hh : held ⟨kk, kx, kn, kp, kl, ks⟩ = false
   · rw [if_pos hh] at he; subst he; simp only [hh] at hCMP; clear hf hh hMAY hr H hE; go_enter Tryz.func70, Tryz.ntmps70
     go_wp2_with fail
     refine (hCMP _).mono ?_; rintro r w1 ⟨rfl, X1⟩; have A2 := A1.pure X1; clear A1 X1; go_wp2_with fail
     go_ret3; exact ⟨rfl, A2.keep hsub⟩
   · rw [if_neg hh] at he
     have hM : mayH L ⟨kk, kx, kn, kp, kl, ks⟩ = false := by
      by_cases e : mayH L ⟨kk, kx, kn, kp, kl, ks⟩ = false
      · exact e
      · exact absurd (by rw [findE, if_neg hh, if_neg e]) hf
     rw [if_pos hM] at he; subst he; simp only [Bool.not_eq_false] at hh; simp only [hh] at hCMP; simp only [hM] at hMAY; clear hf hh hM hr H hE; go_enter Tryz.func70, Tryz.ntmps70
     go_wp2_with fail
     refine (hCMP _).mono ?_; rintro r w1 ⟨rfl, X1⟩; have A2 := A1.pure X1; clear A1 X1
     (try clear Rk); (try clear yk); (try clear Zk)
     have Rk := cells_of (A2.box _ mk); have yk := blk_lt (A2.box _ mk)
     (try simp only at Rk yk)
     go_wp2_with fail
     refine (hMAY _ A2).mono ?_; rintro r w2 ⟨rfl, A3⟩; clear A2; go_wp2_with fail
     go_ret3; exact ⟨rfl, A3.keep hsub⟩
set_option maxRecDepth 100000 in
set_option maxHeartbeats 1000000 in
theorem rsizeh_any (H : RefK J0 gp L E) (A : Ats w0 w M K) (hE : ∀ q ∈ E, q ∈ K) (o : O) {n e : Int} (hr : sizeH L o = (n, e)) :
 Calls Tryz.prog 110 #[ptr gp, o.val] w fun r w' => r = .returned (.tuple #[.int .i64 n, .int .i64 e]) ∧ Ats w0 w' M K := by
 obtain ⟨a, hv⟩ : ∃ a, roomV L o = (a, n, e) := by
  rw [sizeH] at hr
  by_cases h : findE L o ≠ 0
  · rw [if_pos h] at hr; simp only [Prod.mk.injEq] at hr; obtain ⟨rfl, rfl⟩ := hr; exact ⟨_, by rw [roomV, if_pos h]⟩
  · rw [if_neg h] at hr; simp only [Prod.mk.injEq] at hr; obtain ⟨rfl, rfl⟩ := hr; exact ⟨_, by rw [roomV, if_neg h]⟩
 obtain ⟨kk, kx, kn, kp, kl, ks⟩ := o
 obtain ⟨KL, A1, mk, hKK, hsub⟩ : ∃ KL, Ats w0 (w.alloc (Obj.cells #[.int .i64 kk, .bool kx, .int .i64 kn, .int .i64 kp, .int .i64 kl, .string ks] 39)) M KL ∧ (w.heap.size, Obj.cells #[.int .i64 kk, .bool kx, .int .i64 kn, .int .i64 kp, .int .i64 kl, .string ks] 39) ∈ KL ∧ (∀ q ∈ K, q ∈ KL) ∧ K.Sublist KL := ⟨_, A.alloc _, m0, fun q hq => List.mem_cons_of_mem _ hq, List.sublist_cons_self _ _⟩
 have hRM := fun W (A : Ats w0 W M KL) => rroom_any H A (fun q hq => hKK q (hE q hq)) ⟨kk, kx, kn, kp, kl, ks⟩ hv; clear hr H hE hv; go_enter Tryz.func110, Tryz.ntmps110
 go_wp2_with fail
 refine (hRM _ A1).mono ?_; rintro r w1 ⟨rfl, A2⟩; clear A1; go_wp2_with fail
 go_ret2
 exact ⟨rfl, A2.keep hsub⟩
end Go.Proofs.YtoogmimbmgdflaaGreat
