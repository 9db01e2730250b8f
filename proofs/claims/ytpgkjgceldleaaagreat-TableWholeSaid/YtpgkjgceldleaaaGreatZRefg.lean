/- Rmo, Rst -/
import Derived.Test.YtpgkjgceldleaaaGreatZReff
/- The reference's heap: make, with room. -/
namespace Go.Proofs.YtpgkjgceldleaaaGreat
open Go.RowKit

set_option maxRecDepth 100000 in
set_option maxHeartbeats 4000000 in
theorem rmake_ok {J0 : List (Nat × Obj)} {w0 w : World} {M : List (Nat × List C)} {E K : List (Nat × Obj)} {gp : Nat} {L : List C} {c : C} {ck : Int} {vi vb : Value} {clk : Bool} (H : RefK J0 gp L E) (A : Ats w0 w M (E ++ K)) (hc : CellIn E c [.int .i64 ck, vi, vb, .bool clk]) (hb : c.size ≤ 100000) (he : addE L c = 0) :
    Calls Tryz.prog 112 #[ptr gp, .agg #[.int .i64 ck, vi, vb, .bool clk]] w fun e w' => e = .returned (.tuple #[(objOf L c).val, .int .i64 0]) ∧ ∃ E', RefK J0 gp (L ++ [c]) E' ∧ Ats w0 w' M (E' ++ K) := by
  have HRef := hid' H
  obtain ⟨h1, h2⟩ := H.bounds
  obtain ⟨J, R, lv, rows, hJ0, rfl, hR, hrl, hrc, -, -, hnil⟩ := H
  have HC := hid' hc
  have hone := hc.one
  have hsz := hc.size
  obtain ⟨vi', vb', hvs, hi6, hb1, -⟩ := hc
  simp only [List.cons.injEq, Value.int.injEq, Value.bool.injEq, true_and, and_true] at hvs
  obtain ⟨hck, rfl, rfl, -⟩ := hvs
  obtain ⟨a, ca, rfl, -⟩ := hi6.slice
  obtain ⟨b, cb, rfl, -⟩ := hb1.slice
  have hl4 : ∀ r ∈ rows, r.length = 4 := fun r hr => by
    obtain ⟨k, hk, rfl⟩ := List.getElem_of_mem hr
    exact (hrc k (L[k]'(by omega)) rows[k] (List.getElem?_eq_getElem _) (List.getElem?_eq_getElem _)).len
  have hone1 : ∀ u ∈ joinV rows, u.oneCell' = true := fun u hu => by
    obtain ⟨r, hr, hu⟩ := List.mem_flatMap.1 hu
    obtain ⟨k, hk, rfl⟩ := List.getElem_of_mem hr
    exact (hrc k (L[k]'(by omega)) rows[k] (List.getElem?_eq_getElem _) (List.getElem?_eq_getElem _)).one u hu
  have hjl := joinV_len rows hl4
  rw [hrl] at hjl
  have HS := fun w' => rsize_any ck a b c.items.length ca c.bytes.length cb clk (by omega) (by omega) w'
  rw [hsz] at HS
  have hmem : (gp, refBox lv) ∈ J ++ (R ++ [(gp, refBox lv)]) := by simp
  have hbnd : (used L : Int) + (c.size : Int) ≤ 40000 ∧ (L.length : Int) < 2000 := by
    unfold addE at he
    by_cases c1 : 2000 ≤ L.length ∨ 40000 - used L < c.size
    · rw [if_pos c1] at he; simp at he
    · omega
  have hpos : L ≠ [] → 0 < L.length := fun h => List.length_pos_iff.2 h
  obtain ⟨K2, A1, mC, mR, hK2⟩ := A.twoE (.cells #[.int .i64 ck, .slice a c.items.length ca, .slice b c.bytes.length cb, .bool clk] 143) (Obj.cells #[.int .i64 0, .bool false, .int .i64 0, .int .i64 0, .int .i64 0, .string ⟨#[]⟩] 38)
  have HK2 := hid' hK2
  have HOB : Hid (objOf L c = ⟨ck, false, L.length, 0, if ck = 10 then 0 else c.size, ⟨#[]⟩⟩) := by rw [hck]; rfl
  have HUsz : Hid (used L + c.size ≤ 40000) := by have := hbnd.1; exact (by omega : used L + c.size ≤ 40000)
  have u1 : (used L : Int) ≤ 40000 := by omega
  have u2 : (c.size : Int) ≤ 40000 := by omega
  have u3 : (0 : Int) ≤ used L := by omega
  have u4 : (0 : Int) ≤ c.size := by omega
  have HU := fun U (hU : (used L : Int) = U) W (h : AnyA w0 M ((J ++ (R ++ [(gp, refBox lv)])) ++ K2) W) => rused_anyA HRef.out (fun q hq => List.mem_append_left K2 hq) U hU h
  obtain ⟨U, hU⟩ : ∃ U : Int, (used L : Int) = U := ⟨_, rfl⟩
  have HU := HU U hU
  obtain ⟨Z, hZ⟩ : ∃ Z : Int, (c.size : Int) = Z := ⟨_, rfl⟩
  have HZ := hid' hZ
  obtain ⟨hbnd1, hbnd2⟩ := hbnd
  rw [hU] at u1 u3 hbnd1
  rw [hZ] at u2 u4 hbnd1 HS
  obtain ⟨n, hn⟩ : ∃ n, L.length = n := ⟨_, rfl⟩
  obtain ⟨cap0, al, hlv, hcap⟩ : ∃ cap al, lv = .slice al n cap ∧ n ≤ cap := by
    rcases hR with ⟨rfl, h0, -⟩ | ⟨g, cap, cur, rfl, -, h, -⟩
    · exact ⟨0, none, by rw [← hn, h0], by omega⟩
    · exact ⟨_, _, by rw [hn], by omega⟩
  rw [hn] at hbnd2
  have HN := hid' hn
  have HSH := hid' HS
  have HUH := hid' HU
  have HR := hid' hR
  have HRC := hid' hrc
  have HRL := hid' hrl
  have HJ0 := hid' hJ0
  have HJ := hid' hjl
  have HO1 := hid' hone1
  have HO2 := hid' hone
  have HPOS := hid' hpos
  have HNIL := hid' hnil
  clear hJ0 hn HS HU hR hrc hrl hjl hone1 hone hpos hnil hK2 hU hZ hl4 hsz he hck hi6 hb1 A h1 h2 hb
  generalize c.items.length = ni at *
  generalize c.bytes.length = nb at *
  have mG : (gp, refBox lv) ∈ (J ++ (R ++ [(gp, refBox lv)])) ++ K2 := List.mem_append_left _ hmem
  have Rg := AnyA.cells (w0 := w0) (M := M) mG
  have Rc := AnyA.cells (w0 := w0) (M := M) (List.mem_append_right (J ++ (R ++ [(gp, refBox lv)])) mC)
  have HLV := hid' hlv
  have hS1 := A1
  have wr := IntWalk.i64_in (U + Z) (by omega)
  clear hmem
  obtain ⟨E, hE⟩ : ∃ E, E = J ++ (R ++ [(gp, refBox lv)]) := ⟨_, rfl⟩
  rw [← hE] at HUH Rg Rc hS1 A1 mG
  rw [hlv] at Rg
  have HE := hid' hE
  clear hE hlv
  have HMG := hid' mG
  have HMC := hid' mC
  have HMR := hid' mR
  clear mG mC mR
  obtain ⟨lo, hlo⟩ : ∃ lo : Int, (if ck = 10 then 0 else (c.size : Int)) = lo := ⟨_, rfl⟩
  rw [HOB.out, HN.out, hlo]
  have HLO := hid' hlo
  clear hlo
  have hd1 : decide ((2000 : Int) ≤ (n : Int)) = false := by simp; omega
  have hd2 : decide ((40000 : Int) < U + Z) = false := by simp; omega
  go_enter Tryz.func112, Tryz.ntmps112
  go_wp2_with fail
  generalize hW : (w.alloc _).alloc _ = w1 at *
  clear hW
  go_region_held3 (fun W' => AnyA w0 M (E ++ K2) W') (first | (with_reducible assumption) | (with_reducible exact AnyA.pure (by with_reducible assumption) (by with_reducible assumption)) | (with_reducible exact AnyA.drew (by with_reducible assumption)))
      (first | (go_at_call 40; refine (HUH.out _ (by first | (with_reducible exact A1) | (with_reducible exact A1.drew) | (with_reducible assumption) | (with_reducible exact AnyA.drew (by with_reducible assumption)))).mono ?_; rintro r w4 ⟨rfl, S4⟩) | (go_at_call 82; refine (HSH.out _).mono ?_; rintro r w5 ⟨rfl, X5⟩))
  have A6 : Ats w0 w5 M (E ++ K2) := Ats.pure S4 X5
  clear Rg Rc A1 hS1 S4 X5 wr hd1 hd2
  generalize w5 = w6 at *
  go_upto_region 3 with (fail)
  obtain ⟨i0, hi, hz0, hz1, hz2⟩ := info_parts Tryz.infoRcell
  have HA := hid' A6
  (try clear Rg); (try clear yg); (try clear Zg)
  have Rg := cells_of (A6.box _ HMG.out)
  have yg := blk_lt (A6.box _ HMG.out)
  have Zg := free_of (A6.box _ HMG.out)
  (try clear Rc); (try clear yc); (try clear Zc)
  have Rc := cells_of (A6.box _ (List.mem_append_right E HMC.out))
  have yc := blk_lt (A6.box _ (List.mem_append_right E HMC.out))
  (try simp only at Rg yg Zg Rc yc)
  have RG := Rg
  rw [HLV.out] at RG
  have HAL : ∀ W, Ats w0 W M (E ++ K2) → (∀ i, W.cell? ⟨gp, i, none⟩ = #[Value.slice al n cap0][i]?) ∧ (∀ i, W.cell? ⟨w.heap.size, i, none⟩ = #[Value.int .i64 ck, Value.slice a ni ca, Value.slice b nb cb, Value.bool clk][i]?) := fun W AW => ⟨by rw [← HLV.out]; exact cells_of (AW.box _ HMG.out), cells_of (AW.box _ (List.mem_append_right E HMC.out))⟩
  have HALH := hid' HAL
  clear A6 Rg HAL
  have Rg := RG
  clear RG
  go_cut [] (fun wx => ∃ E', RefK J0 gp (L ++ [c]) E' ∧ Ats w0 wx M (E' ++ K2))
  case first =>
    have CL : ∀ (W : World) (R2 : List (Nat × Obj)) (v : Value) (xs : List Value), xs = joinV rows → Ats w0 W M (R2 ++ (E ++ K2)) → RowG 143 4 R2 v (n + 1) (xs ++ [.int .i64 ck, .slice a ni ca, .slice b nb cb, .bool clk]) → ∃ E', RefK J0 gp (L ++ [c]) E' ∧ Ats w0 (W.setCell ⟨gp, 0, none⟩ v) M (E' ++ K2) := fun W R2 v xs hx AW hR => by
      subst hx
      rw [HE.out] at AW
      exact RefK.grow AW (by rw [HN.out]; exact hR) HRL.out HRC.out HC.out.less (by rw [HN.out]; omega) HUsz.out HJ0.out
    have HCL := hid' CL
    clear CL
    rcases Nat.eq_zero_or_pos n with h0 | hpos
    · have hL : L = [] := List.eq_nil_of_length_eq_zero (by rw [HN.out, h0])
      have hlv := HNIL.out hL
      rw [HLV.out] at hlv
      simp only [Value.slice.injEq] at hlv
      obtain ⟨rfl, -, rfl⟩ := hlv
      subst h0
      have hrows : joinV rows = [] := by
        have := HJ.out
        rw [hL] at this
        exact List.eq_nil_of_length_eq_zero this
      have HJZ := hid' hrows
      clear hrows hL
      go_region_law (first
        | (refine step_app0 rfl (.tmp 27) (.tmp 29) 60 rfl 143 i0 (.agg #[.int .i64 0, .slice none 0 0, .slice none 0 0, .bool false]) 4 64 Tryz.underRcells hi hz0 hz1 hz2 rfl (by decide) (E ++ K2) (by first | exact HA.out.pure ((Chg.refl NoB w6).alloc _) | exact HA.out.pure (((Chg.refl NoB w6).alloc _).drew)) rfl ⟨w6.heap.size, 0, none⟩ 1 1 [.int .i64 ck, .slice a ni ca, .slice b nb cb, .bool clk] rfl rfl (news_new (T := 143) (fz := (0, 0)) (by first | exact blk_new w6 _ | exact blk_drew (blk_new w6 _))) HO2.out (by decide) (by unfold maxLen; omega) (by omega) ?_; intro g2 cap2 w8 R8 hR8 A8; have HR8 := hid' hR8; have HA8 := hid' A8; clear hR8 A8; have Rg8 := cells_of (HA8.out.box _ (List.mem_append_right R8 HMG.out)); rw [HLV.out] at Rg8; have Zg8 := free_of (HA8.out.box _ (List.mem_append_right R8 HMG.out)); have yg8 := blk_lt (HA8.out.box _ (List.mem_append_right R8 HMG.out)))
        | fail)
      all_goals
        go_wp2_with fail
        go_meet
        exact HCL.out _ R8 _ [] HJZ.out.symm HA8.out HR8.out
    · obtain ⟨g, cur, hal, mg, hcl, hct, hjl⟩ : ∃ g cur, al = some ⟨g, 0, none⟩ ∧ (g, Obj.cells cur 143) ∈ E ++ K2 ∧ cap0 ≤ maxLen ∧ cur.toList.take (n * 4) = joinV rows ∧ (joinV rows).length = n * 4 := by
        have hr := HR.out
        rw [HLV.out, HN.out] at hr
        rcases hr with ⟨hv, h0, -⟩ | ⟨g, cap, cur, hv, hR', h1, h2, h3, h4, h5⟩
        · omega
        · simp only [Value.slice.injEq, true_and] at hv
          obtain ⟨rfl, rfl⟩ := hv
          exact ⟨g, cur, rfl, by rw [HE.out, hR']; simp, h2, h4, h5⟩
      subst hal
      have HT := hid' hct
      have HJ1 := hid' hjl
      have HMg := hid' mg
      clear hct hjl mg
      go_region_law (first
        | (refine step_app0 rfl (.const (.slice none 0 0)) (.tmp 26) 60 rfl 143 i0 (.agg #[.int .i64 0, .slice none 0 0, .slice none 0 0, .bool false]) 4 64 Tryz.underRcells hi hz0 hz1 hz2 rfl (by decide) ((w6.heap.size, (Obj.cells #[.int .i64 ck, .slice a ni ca, .slice b nb cb, .bool clk] 143)) :: (E ++ K2)) (by first | exact (HA.out.alloc _) | exact (HA.out.alloc _).drew) rfl ⟨g, 0, none⟩ n cap0 (joinV rows) rfl HJ1.out (news_take (by first | exact (blk_alloc (HA.out.box _ HMg.out) _) | exact blk_drew (blk_alloc (HA.out.box _ HMg.out) _)) (n * 4) _ HT.out) HO1.out hpos (by unfold maxLen; omega) (by omega) ?_; intro g1 cap1 w7 R7 hR7 A7; have HR7 := hid' hR7; have HA7 := hid' A7; clear hR7 A7; obtain ⟨Rg7, Rc7⟩ := HALH.out w7 (HA7.out.keep (((List.sublist_cons_self _ _)).trans (List.sublist_append_right _ _))))
        | (refine step_app0 rfl (.const (.slice none 0 0)) (.tmp 26) 60 rfl 143 i0 (.agg #[.int .i64 0, .slice none 0 0, .slice none 0 0, .bool false]) 4 64 Tryz.underRcells hi hz0 hz1 hz2 rfl (by decide) (E ++ K2) (by first | exact HA.out | exact HA.out.drew) rfl ⟨g, 0, none⟩ n cap0 (joinV rows) rfl HJ1.out (news_take (by first | exact (HA.out.box _ HMg.out) | exact blk_drew (HA.out.box _ HMg.out)) (n * 4) _ HT.out) HO1.out hpos (by unfold maxLen; omega) (by omega) ?_; intro g1 cap1 w7 R7 hR7 A7; have HR7 := hid' hR7; have HA7 := hid' A7; clear hR7 A7; obtain ⟨Rg7, Rc7⟩ := HALH.out w7 (HA7.out.keep (List.sublist_append_right _ _)))
        | (refine step_app rfl (.tmp 27) (.tmp 29) 60 rfl 143 i0 (.agg #[.int .i64 0, .slice none 0 0, .slice none 0 0, .bool false]) 4 64 Tryz.underRcells hi hz0 hz1 hz2 rfl (by decide) R7 (E ++ K2) (.slice (some ⟨g1, 0, none⟩) n cap1) n (joinV rows) (by first | exact HA7.out.pure ((Chg.refl NoB w7).alloc _) | exact HA7.out.pure (((Chg.refl NoB w7).alloc _).drew)) HR7.out rfl ⟨w7.heap.size, 0, none⟩ 1 1 [.int .i64 ck, .slice a ni ca, .slice b nb cb, .bool clk] rfl rfl (news_new (T := 143) (fz := (0, 0)) (by first | exact blk_new w7 _ | exact blk_drew (blk_new w7 _))) HO2.out (by decide) (by unfold maxLen; omega) (by omega) ?_; intro g2 cap2 w8 R8 hR8 A8; have HR8 := hid' hR8; have HA8 := hid' A8; clear hR8 A8; have Rg8 := cells_of (HA8.out.box _ (List.mem_append_right R8 HMG.out)); rw [HLV.out] at Rg8; have Zg8 := free_of (HA8.out.box _ (List.mem_append_right R8 HMG.out)); have yg8 := blk_lt (HA8.out.box _ (List.mem_append_right R8 HMG.out)))
        | (refine step_app rfl (.tmp 27) (.tmp 29) 60 rfl 143 i0 (.agg #[.int .i64 0, .slice none 0 0, .slice none 0 0, .bool false]) 4 64 Tryz.underRcells hi hz0 hz1 hz2 rfl (by decide) R7 ((w6.heap.size, (Obj.cells #[.int .i64 ck, .slice a ni ca, .slice b nb cb, .bool clk] 143)) :: (E ++ K2)) (.slice (some ⟨g1, 0, none⟩) n cap1) n (joinV rows) (by first | exact HA7.out | exact HA7.out.drew) HR7.out rfl ⟨w6.heap.size, 0, none⟩ 1 1 [.int .i64 ck, .slice a ni ca, .slice b nb cb, .bool clk] rfl rfl (news_box (T := 143) (fz := (0, 0)) (by first | exact HA7.out | exact HA7.out.drew) (List.mem_append_right R7 (List.mem_cons_self ..))) HO2.out (by decide) (by unfold maxLen; omega) (by omega) ?_; intro g2 cap2 w8 R8 hR8 A8b; have A8 := A8b.keep (List.Sublist.append_left (List.sublist_cons_self _ _) R8); clear A8b; have HR8 := hid' hR8; have HA8 := hid' A8; clear hR8 A8; have Rg8 := cells_of (HA8.out.box _ (List.mem_append_right R8 HMG.out)); rw [HLV.out] at Rg8; have Zg8 := free_of (HA8.out.box _ (List.mem_append_right R8 HMG.out)); have yg8 := blk_lt (HA8.out.box _ (List.mem_append_right R8 HMG.out)))
        | fail)
      all_goals
        go_wp2_with fail
        go_meet
        exact HCL.out _ R8 _ _ rfl HA8.out HR8.out
  case rest =>
    obtain ⟨E', hR', A9⟩ := hcut
    generalize wc = w9 at *
    obtain ⟨lv9, mG9, hrow9⟩ := hR'.parts
    obtain ⟨a9, c9, rfl, hc9⟩ : ∃ a9 c9, lv9 = .slice a9 (n + 1) c9 ∧ n + 1 ≤ c9 := by
      rcases hrow9 with ⟨h, -⟩ | ⟨g, cap, cur, rfl, h, -⟩
      · simp at h
      · rw [List.length_append, HN.out] at h ⊢
        exact ⟨_, _, rfl, h⟩
    have HR9 := hid' hR'
    have HM9 := hid' (List.mem_append_left K2 mG9)
    clear hrow9 hR' mG9 Rg yg Zg Rc yc HALH HA HMG HUH
    (try clear Rg); (try clear yg); (try clear Zg)
    have Rg := cells_of (A9.box _ HM9.out)
    have yg := blk_lt (A9.box _ HM9.out)
    (try clear Rc); (try clear yc); (try clear Zc)
    have Rc := cells_of (A9.box _ (List.mem_append_right E' HMC.out))
    have yc := blk_lt (A9.box _ (List.mem_append_right E' HMC.out))
    (try simp only at Rg yg Rc yc)
    have hw1 : IntKind.i64.wrap ((n : Int) + 1 - 1) = n := by rw [IntWalk.i64_in _ (by omega)]; omega
    have hw2 : IntKind.i64.wrap (((n + 1 : Nat) : Int) - 1) = n := by rw [IntWalk.i64_in _ (by omega)]; omega
    go_upto_region 4 with (fail)
    go_cut [6] (fun s6 wx => ∃ q, s6 = .pointer (some ⟨q, 0, none⟩) ∧ Ats w0 wx M ((q, Obj.cells #[.int .i64 ck, .bool false, .int .i64 n, .int .i64 0, .int .i64 0, .string ⟨#[]⟩] 38) :: (E' ++ K2)))
    case first =>
      go_region
      all_goals
        go_wp2_with fail
        go_meet
        first
          | with_reducible exact ⟨_, rfl, A9.alloc _⟩
          | with_reducible exact ⟨_, rfl, (A9.alloc _).drew⟩
          | with_reducible exact ⟨_, rfl, A9.drew.alloc _⟩
          | with_reducible exact ⟨_, rfl, (A9.drew.alloc _).drew⟩
          | with_reducible exact ⟨_, rfl, (A9.alloc _).drew.putO ck false n 0 0 ⟨#[]⟩⟩
          | with_reducible exact ⟨_, rfl, (A9.alloc _).putO ck false n 0 0 ⟨#[]⟩⟩
    case rest =>
      obtain ⟨q, rfl, A10⟩ := hcut
      generalize wc = w10 at *
      clear Rg yg Rc yc A9 hw1 hw2
      have mR0 := HMR.out
      by_cases hk10 : ck = 10
      · obtain rfl : (0 : Int) = lo := by rw [← HLO.out, if_pos hk10]
        have HK10 := hid' hk10
        subst hk10
        (try clear Rq); (try clear yq); (try clear Zq)
        have Rq := cells_of (A10.box _ m0)
        have yq := blk_lt (A10.box _ m0)
        (try clear Rc); (try clear yc); (try clear Zc)
        have Rc := cells_of (A10.box _ (List.mem_cons_of_mem _ (List.mem_append_right E' HMC.out)))
        have yc := blk_lt (A10.box _ (List.mem_cons_of_mem _ (List.mem_append_right E' HMC.out)))
        (try clear Rr); (try clear yr); (try clear Zr)
        have Rr := cells_of (A10.box _ (List.mem_cons_of_mem _ (List.mem_append_right E' HMR.out)))
        have yr := blk_lt (A10.box _ (List.mem_cons_of_mem _ (List.mem_append_right E' HMR.out)))
        have Zr := free_of (A10.box _ (List.mem_cons_of_mem _ (List.mem_append_right E' HMR.out)))
        (try simp only at Rq yq Rc yc Rr yr Zr)
        go_wp2_with fail
        have A11 := (Ats.outR A10 HK2.out).putO 10 false n 0 0 ⟨#[]⟩
        have R11 := cells_of (A11.box _ m0)
        refine bodyPost_ret (v := .tuple #[O.val (⟨10, false, n, 0, 0, ⟨#[]⟩⟩ : O), .int .i64 0]) ?_ rfl ⟨rfl, E', HR9.out, A11.keep (List.sublist_cons_self _ _)⟩
        simp [results, Tryz.results112, go_sem, R11]
      · obtain rfl : Z = lo := by rw [← HLO.out, if_neg hk10, HZ.out]
        have hkc : (ck == 10) = false := by simpa using hk10
        clear hk10
        (try clear Rq); (try clear yq); (try clear Zq)
        have Rq := cells_of (A10.box _ m0)
        have yq := blk_lt (A10.box _ m0)
        have Zq := free_of (A10.box _ m0)
        (try clear Rc); (try clear yc); (try clear Zc)
        have Rc := cells_of (A10.box _ (List.mem_cons_of_mem _ (List.mem_append_right E' HMC.out)))
        have yc := blk_lt (A10.box _ (List.mem_cons_of_mem _ (List.mem_append_right E' HMC.out)))
        (try simp only at Rq yq Zq Rc yc)
        go_wp2_with fail
        refine (HSH.out _).mono ?_
        rintro r w11 ⟨rfl, X11⟩
        have A12 := A10.pure X11
        clear A10 X11 hkc
        (try clear Rq); (try clear yq); (try clear Zq)
        have Rq := cells_of (A12.box _ m0)
        have yq := blk_lt (A12.box _ m0)
        have Zq := free_of (A12.box _ m0)
        (try simp only at Rq yq Zq)
        have A13 := A12.put 4 (.int .i64 Z)
        simp only [List.setIfInBounds_toArray, List.set_cons_zero, List.set_cons_succ] at A13
        go_upto_region 7 with (fail)
        generalize hW : w11.setCell _ _ = w13 at *
        clear hW A12
        (try clear Rq); (try clear yq); (try clear Zq)
        have Rq := cells_of (A13.box _ m0)
        have yq := blk_lt (A13.box _ m0)
        (try clear Rr); (try clear yr); (try clear Zr)
        have Rr := cells_of (A13.box _ (List.mem_cons_of_mem _ (List.mem_append_right E' HMR.out)))
        have yr := blk_lt (A13.box _ (List.mem_cons_of_mem _ (List.mem_append_right E' HMR.out)))
        have Zr := free_of (A13.box _ (List.mem_cons_of_mem _ (List.mem_append_right E' HMR.out)))
        (try simp only at Rq yq Rr yr Zr)
        go_wp2_with fail
        have A14 := (Ats.outR A13 HK2.out).putO ck false n 0 Z ⟨#[]⟩
        have R14 := cells_of (A14.box _ m0)
        refine bodyPost_ret (v := .tuple #[O.val (⟨ck, false, n, 0, Z, ⟨#[]⟩⟩ : O), .int .i64 0]) ?_ rfl ⟨rfl, E', HR9.out, A14.keep (List.sublist_cons_self _ _)⟩
        simp [results, Tryz.results112, go_sem, R14]
theorem addE_two (L : List C) (c : C) : addE L c = 0 ∨ addE L c = 5 := by unfold addE; split <;> simp
/-- The reference's make, whole. -/
theorem rmake_any {J0 : List (Nat × Obj)} {w0 w : World} {M : List (Nat × List C)} {E K : List (Nat × Obj)} {gp : Nat} {L : List C} {c : C} {ck : Int} {vi vb : Value} {clk : Bool} (H : RefK J0 gp L E) (A : Ats w0 w M (E ++ K)) (hc : CellIn E c [.int .i64 ck, vi, vb, .bool clk]) (hb : c.size ≤ 100000) :
    Calls Tryz.prog 112 #[ptr gp, .agg #[.int .i64 ck, vi, vb, .bool clk]] w fun e w' => e = .returned (.tuple #[(if addE L c = 0 then objOf L c else O.nil).val, .int .i64 (addE L c)]) ∧ ∃ E', RefK J0 gp (if addE L c = 0 then L ++ [c] else L) E' ∧ Ats w0 w' M (E' ++ K) := by
  by_cases he : addE L c = 0
  · rw [if_pos he, if_pos he, he]
    exact rmake_ok H A hc hb he
  · rw [if_neg he, if_neg he, (addE_two L c).resolve_left he]
    exact (rmake_err H A hc hb he).mono fun e w' h => ⟨h.1, E, H, h.2⟩
theorem rmake_h {J0 : List (Nat × Obj)} {w0 w : World} {M : List (Nat × List C)} {E K : List (Nat × Obj)} {gp : Nat} {L L' : List C} {c : C} {ck : Int} {vi vb : Value} {clk : Bool} {o : O} {e : Int} (H : RefK J0 gp L E) (A : Ats w0 w M (E ++ K)) (hc : CellIn E c [.int .i64 ck, vi, vb, .bool clk]) (hb : c.size ≤ 100000) (hr : makeH L c = (L', o, e)) :
    Calls Tryz.prog 112 #[ptr gp, .agg #[.int .i64 ck, vi, vb, .bool clk]] w fun r w' => r = .returned (.tuple #[o.val, .int .i64 e]) ∧ ∃ E', RefK J0 gp L' E' ∧ Ats w0 w' M (E' ++ K) := by
  unfold makeH at hr
  by_cases he : addE L c = 0
  · rw [if_neg (by simp [he])] at hr
    simp only [Prod.mk.injEq] at hr
    obtain ⟨rfl, rfl, rfl⟩ := hr
    exact rmake_ok H A hc hb he
  · rw [if_pos he] at hr
    simp only [Prod.mk.injEq] at hr
    obtain ⟨rfl, rfl, rfl⟩ := hr
    exact (rmake_err H A hc hb he).mono fun e w' h => ⟨h.1, E, H, h.2⟩
end Go.Proofs.YtpgkjgceldleaaaGreat
/- The reference's heap: String. -/
namespace Go.Proofs.YtpgkjgceldleaaaGreat
open Go.RowKit

theorem str_in (w : World) (s : ByteArray) (hs : s.size ≤ 40000) (J : List (Nat × Obj)) : RowIn ((w.heap.size, .cells (strCells w s) 5 ((strCells w s).size, (strCells w s).size + 1)) :: J) 5 1 (.slice (some ⟨w.heap.size, 0, none⟩) s.size (strCap w s)) s.size (s.toList.map vu8) := by
  have e : s.toList.length = s.size := by rw [ByteArray.toList_eq]; rfl
  refine .inr ⟨w.heap.size, strCap w s, strCells w s, _, rfl, List.mem_cons_self .., strCap_ge w s, strCap_le w s (by unfold maxLen; omega), by rw [strCells_size]; omega, ?_, by simp [e]⟩
  simp only [strCells, Array.toList_append, Nat.mul_one, Array.toList_map]
  rw [List.take_append_of_le_length (by simp), ByteArray.toList_eq, List.take_of_length_le (by simp)]
set_option maxRecDepth 100000 in
set_option maxHeartbeats 1000000 in
theorem rstr_any {J0 : List (Nat × Obj)} {w0 w : World} {M : List (Nat × List C)} {E K : List (Nat × Obj)} {gp : Nat} {L L' : List C} {o : O} {e : Int} (H : RefK J0 gp L E) (A : Ats w0 w M (E ++ K)) (s : ByteArray) (hr : stringH L s = (L', o, e)) :
    Calls Tryz.prog 129 #[ptr gp, .string s] w fun r w' => r = .returned (.tuple #[o.val, .int .i64 e]) ∧ ∃ E', RefK J0 gp L' E' ∧ Ats w0 w' M (E' ++ K) := by
  unfold stringH at hr
  have A1 := A.alloc (Obj.cells #[.int .i64 0, .bool false, .int .i64 0, .int .i64 0, .int .i64 0, .string ⟨#[]⟩] 38)
  by_cases h1 : 40000 < s.size
  · rw [if_pos h1] at hr
    simp only [Prod.mk.injEq] at hr
    obtain ⟨rfl, rfl, rfl⟩ := hr
    have h1' : (40000 : Int) < (s.size : Int) := by omega
    clear h1
    go_enter Tryz.func129, Tryz.ntmps129
    go_wp2_with fail
    refine bodyPost_ret (v := .tuple #[O.nil.val, .int .i64 5]) (by simp [results, Tryz.results129, go_sem, O.nil]) rfl ⟨rfl, E, H, A1.keep (List.sublist_cons_self _ _)⟩
  · rw [if_neg h1] at hr
    have h1' : (s.size : Int) ≤ 40000 := by omega
    have hcv := fun W => run_str_bytes s W
    have A2 := A1.got (strW_chg _ s) (strW_blk _ s) (Nat.le_refl _)
    have A3 : Ats w0 (strW (w.alloc (Obj.cells #[.int .i64 0, .bool false, .int .i64 0, .int .i64 0, .int .i64 0, .string ⟨#[]⟩] 38)) s) M ((((w.alloc (Obj.cells #[.int .i64 0, .bool false, .int .i64 0, .int .i64 0, .int .i64 0, .string ⟨#[]⟩] 38)).heap.size, Obj.cells (strCells (w.alloc (Obj.cells #[.int .i64 0, .bool false, .int .i64 0, .int .i64 0, .int .i64 0, .string ⟨#[]⟩] 38)) s) 5 ((strCells (w.alloc (Obj.cells #[.int .i64 0, .bool false, .int .i64 0, .int .i64 0, .int .i64 0, .string ⟨#[]⟩] 38)) s).size, (strCells (w.alloc (Obj.cells #[.int .i64 0, .bool false, .int .i64 0, .int .i64 0, .int .i64 0, .string ⟨#[]⟩] 38)) s).size + 1)) :: E) ++ ((w.heap.size, Obj.cells #[.int .i64 0, .bool false, .int .i64 0, .int .i64 0, .int .i64 0, .string ⟨#[]⟩] 38) :: K)) := A2.perm (List.perm_middle.symm.cons _)
    have H3 := H.more ((w.alloc (Obj.cells #[.int .i64 0, .bool false, .int .i64 0, .int .i64 0, .int .i64 0, .string ⟨#[]⟩] 38)).heap.size, Obj.cells (strCells (w.alloc (Obj.cells #[.int .i64 0, .bool false, .int .i64 0, .int .i64 0, .int .i64 0, .string ⟨#[]⟩] 38)) s) 5 ((strCells (w.alloc (Obj.cells #[.int .i64 0, .bool false, .int .i64 0, .int .i64 0, .int .i64 0, .string ⟨#[]⟩] 38)) s).size, (strCells (w.alloc (Obj.cells #[.int .i64 0, .bool false, .int .i64 0, .int .i64 0, .int .i64 0, .string ⟨#[]⟩] 38)) s).size + 1))
    have hsl : s.toList.length = s.size := by rw [ByteArray.toList_eq]; rfl
    have hci := str_in (w.alloc (Obj.cells #[.int .i64 0, .bool false, .int .i64 0, .int .i64 0, .int .i64 0, .string ⟨#[]⟩] 38)) s (by omega) E
    have hc : CellIn (((w.alloc (Obj.cells #[.int .i64 0, .bool false, .int .i64 0, .int .i64 0, .int .i64 0, .string ⟨#[]⟩] 38)).heap.size, Obj.cells (strCells (w.alloc (Obj.cells #[.int .i64 0, .bool false, .int .i64 0, .int .i64 0, .int .i64 0, .string ⟨#[]⟩] 38)) s) 5 ((strCells (w.alloc (Obj.cells #[.int .i64 0, .bool false, .int .i64 0, .int .i64 0, .int .i64 0, .string ⟨#[]⟩] 38)) s).size, (strCells (w.alloc (Obj.cells #[.int .i64 0, .bool false, .int .i64 0, .int .i64 0, .int .i64 0, .string ⟨#[]⟩] 38)) s).size + 1)) :: E) ⟨true, false, false, [], s.toList⟩ [.int .i64 8, .slice none 0 0, .slice (some ⟨(w.alloc (Obj.cells #[.int .i64 0, .bool false, .int .i64 0, .int .i64 0, .int .i64 0, .string ⟨#[]⟩] 38)).heap.size, 0, none⟩) s.size (strCap (w.alloc (Obj.cells #[.int .i64 0, .bool false, .int .i64 0, .int .i64 0, .int .i64 0, .string ⟨#[]⟩] 38)) s), .bool false] :=
      ⟨_, _, rfl, .inl ⟨rfl, rfl, rfl⟩, by simp only; rw [hsl]; exact hci, fun _ => rfl, fun h => by simp at h⟩
    have HM := rmake_h H3 A3 hc (by simp only [C.size, if_true]; rw [hsl]; omega) hr
    simp only [World.size_alloc] at HM
    have HM := hid' HM
    clear hc hci H3 A3 A2 hsl h1 A1 hr
    obtain ⟨ok, ox, on, op, ol, os⟩ := o
    go_enter Tryz.func129, Tryz.ntmps129
    go_wp2_with fail
    refine HM.out.mono ?_
    rintro r w2 ⟨rfl, E', H', A4⟩
    have A5 := A4.perm List.perm_middle
    (try clear Rr); (try clear yr); (try clear Zr)
    have Rr := cells_of (A5.box _ m0)
    have yr := blk_lt (A5.box _ m0)
    have Zr := free_of (A5.box _ m0)
    (try simp only at Rr yr Zr)
    have A6 := A5.putO ok ox on op ol os
    go_wp2_with fail
    have R6 := cells_of (A6.box _ m0)
    refine bodyPost_ret (v := .tuple #[O.val (⟨ok, ox, on, op, ol, os⟩ : O), .int .i64 e]) ?_ rfl ⟨rfl, E', H', A6.keep (List.sublist_cons_self _ _)⟩
    simp [results, Tryz.results129, go_sem, R6]
end Go.Proofs.YtpgkjgceldleaaaGreat
