/- Rmo, Rst, Rps, Ql -/
import Derived.Test.YteglbjcdlekbpaaGreatZReff
import Derived.Test.YteglbjcdlekbpaaGreatZStack
import Derived.Test.YteglbjcdlekbpaaGreatZTxgs
import Derived.Test.YteglbjcdlekbpaaGreatZOpsb
/- The reference's heap: make, with room. -/
namespace Go.Proofs.YteglbjcdlekbpaaGreat
open Go.RowKit

set_option maxRecDepth 100000 in
set_option maxHeartbeats 4000000 in
theorem rmake_ok {w0 w : World} {M : List (Nat × List C)} {E K : List (Nat × Obj)} {gp : Nat} {L : List C} {c : C} {ck : Int} {vi vb : Value} {clk : Bool} (H : RefB gp L E) (A : Ats w0 w M (E ++ K)) (hc : CellIn E c [.int .i64 ck, vi, vb, .bool clk]) (hb : c.size ≤ 100000) (he : addE L c = 0) :
    Calls Tryz.prog 98 #[ptr gp, .agg #[.int .i64 ck, vi, vb, .bool clk]] w fun e w' => e = .returned (.tuple #[(objOf L c).val, .int .i64 0]) ∧ ∃ E', RefB gp (L ++ [c]) E' ∧ Ats w0 w' M (E' ++ K) := by
  have HRef := hid' H
  obtain ⟨h1, h2⟩ := H.bounds
  obtain ⟨J, R, lv, rows, rfl, hR, hrl, hrc, -, -, hnil⟩ := H
  have HC := hid' hc
  have hone := hc.one
  have hsz := hc.size
  obtain ⟨vi', vb', hvs, hi6, hb1, -⟩ := hc
  simp only [List.cons.injEq, Value.int.injEq, Value.bool.injEq, true_and, and_true] at hvs
  obtain ⟨hck, rfl, rfl, -⟩ := hvs
  obtain ⟨a, ca, rfl, -⟩ := hi6.slice
  obtain ⟨b, cb, rfl, -⟩ := hb1.slice
  have hl4 : ∀ r ∈ rows, r.length = 4 := fun r hr => by
    obtain ⟨k, hk, rfl⟩ := List.getElem_of_mem hr
    exact (hrc k (L[k]'(by omega)) rows[k] (List.getElem?_eq_getElem _) (List.getElem?_eq_getElem _)).len
  have hone1 : ∀ u ∈ joinV rows, u.oneCell' = true := fun u hu => by
    obtain ⟨r, hr, hu⟩ := List.mem_flatMap.1 hu
    obtain ⟨k, hk, rfl⟩ := List.getElem_of_mem hr
    exact (hrc k (L[k]'(by omega)) rows[k] (List.getElem?_eq_getElem _) (List.getElem?_eq_getElem _)).one u hu
  have hjl := joinV_len rows hl4
  rw [hrl] at hjl
  have HS := fun w' => rsize_any ck a b c.items.length ca c.bytes.length cb clk (by omega) (by omega) w'
  rw [hsz] at HS
  have hmem : (gp, refBox lv) ∈ J ++ (R ++ [(gp, refBox lv)]) := by simp
  have hbnd : (used L : Int) + (c.size : Int) ≤ 40000 ∧ (L.length : Int) < 2000 := by
    unfold addE at he
    by_cases c1 : 2000 ≤ L.length ∨ 40000 - used L < c.size
    · rw [if_pos c1] at he; simp at he
    · omega
  have hpos : L ≠ [] → 0 < L.length := fun h => List.length_pos_iff.2 h
  obtain ⟨K2, A1, mC, mR, hK2⟩ := A.twoE (.cells #[.int .i64 ck, .slice a c.items.length ca, .slice b c.bytes.length cb, .bool clk] 150) (Obj.cells #[.int .i64 0, .bool false, .int .i64 0, .int .i64 0, .int .i64 0, .string ⟨#[]⟩] 38)
  have HK2 := hid' hK2
  have HOB : Hid (objOf L c = ⟨ck, false, L.length, 0, if ck = 10 then 0 else c.size, ⟨#[]⟩⟩) := by rw [hck]; rfl
  have HUsz : Hid (used L + c.size ≤ 40000) := by have := hbnd.1; exact (by omega : used L + c.size ≤ 40000)
  have u1 : (used L : Int) ≤ 40000 := by omega
  have u2 : (c.size : Int) ≤ 40000 := by omega
  have u3 : (0 : Int) ≤ used L := by omega
  have u4 : (0 : Int) ≤ c.size := by omega
  have HU := fun U (hU : (used L : Int) = U) W (h : AnyA w0 M ((J ++ (R ++ [(gp, refBox lv)])) ++ K2) W) => rused_anyA HRef.out (fun q hq => List.mem_append_left K2 hq) U hU h
  obtain ⟨U, hU⟩ : ∃ U : Int, (used L : Int) = U := ⟨_, rfl⟩
  have HU := HU U hU
  obtain ⟨Z, hZ⟩ : ∃ Z : Int, (c.size : Int) = Z := ⟨_, rfl⟩
  have HZ := hid' hZ
  obtain ⟨hbnd1, hbnd2⟩ := hbnd
  rw [hU] at u1 u3 hbnd1
  rw [hZ] at u2 u4 hbnd1 HS
  obtain ⟨n, hn⟩ : ∃ n, L.length = n := ⟨_, rfl⟩
  obtain ⟨cap0, al, hlv, hcap⟩ : ∃ cap al, lv = .slice al n cap ∧ n ≤ cap := by
    rcases hR with ⟨rfl, h0, -⟩ | ⟨g, cap, cur, rfl, -, h, -⟩
    · exact ⟨0, none, by rw [← hn, h0], by omega⟩
    · exact ⟨_, _, by rw [hn], by omega⟩
  rw [hn] at hbnd2
  have HN := hid' hn
  have HSH := hid' HS
  have HUH := hid' HU
  have HR := hid' hR
  have HRC := hid' hrc
  have HRL := hid' hrl
  have HJ := hid' hjl
  have HO1 := hid' hone1
  have HO2 := hid' hone
  have HPOS := hid' hpos
  have HNIL := hid' hnil
  clear hn HS HU hR hrc hrl hjl hone1 hone hpos hnil hK2 hU hZ hl4 hsz he hck hi6 hb1 A h1 h2 hb
  generalize c.items.length = ni at *
  generalize c.bytes.length = nb at *
  have mG : (gp, refBox lv) ∈ (J ++ (R ++ [(gp, refBox lv)])) ++ K2 := List.mem_append_left _ hmem
  have Rg := AnyA.cells (w0 := w0) (M := M) mG
  have Rc := AnyA.cells (w0 := w0) (M := M) (List.mem_append_right (J ++ (R ++ [(gp, refBox lv)])) mC)
  have HLV := hid' hlv
  have hS1 := A1
  have wr := IntWalk.i64_in (U + Z) (by omega)
  clear hmem
  obtain ⟨E, hE⟩ : ∃ E, E = J ++ (R ++ [(gp, refBox lv)]) := ⟨_, rfl⟩
  rw [← hE] at HUH Rg Rc hS1 A1 mG
  rw [hlv] at Rg
  have HE := hid' hE
  clear hE hlv
  have HMG := hid' mG
  have HMC := hid' mC
  have HMR := hid' mR
  clear mG mC mR
  obtain ⟨lo, hlo⟩ : ∃ lo : Int, (if ck = 10 then 0 else (c.size : Int)) = lo := ⟨_, rfl⟩
  rw [HOB.out, HN.out, hlo]
  have HLO := hid' hlo
  clear hlo
  have hd1 : decide ((2000 : Int) ≤ (n : Int)) = false := by simp; omega
  have hd2 : decide ((40000 : Int) < U + Z) = false := by simp; omega
  go_enter Tryz.func98, Tryz.ntmps98
  go_wp2_with fail
  generalize hW : (w.alloc _).alloc _ = w1 at *
  clear hW
  go_region_held3 (fun W' => AnyA w0 M (E ++ K2) W') (first | (with_reducible assumption) | (with_reducible exact AnyA.pure (by with_reducible assumption) (by with_reducible assumption)) | (with_reducible exact AnyA.drew (by with_reducible assumption)))
      (first | (go_at_call 144; refine (HUH.out _ (by first | (with_reducible exact A1) | (with_reducible exact A1.drew) | (with_reducible assumption) | (with_reducible exact AnyA.drew (by with_reducible assumption)))).mono ?_; rintro r w4 ⟨rfl, S4⟩) | (go_at_call 145; refine (HSH.out _).mono ?_; rintro r w5 ⟨rfl, X5⟩))
  have A6 : Ats w0 w5 M (E ++ K2) := Ats.pure S4 X5
  clear Rg Rc A1 hS1 S4 X5 wr hd1 hd2
  generalize w5 = w6 at *
  go_upto_region 3 with (fail)
  obtain ⟨i0, hi, hz0, hz1, hz2⟩ := info_parts Tryz.infoRcell
  have HA := hid' A6
  (try clear Rg); (try clear yg); (try clear Zg)
  have Rg := cells_of (A6.box _ HMG.out)
  have yg := blk_lt (A6.box _ HMG.out)
  have Zg := free_of (A6.box _ HMG.out)
  (try clear Rc); (try clear yc); (try clear Zc)
  have Rc := cells_of (A6.box _ (List.mem_append_right E HMC.out))
  have yc := blk_lt (A6.box _ (List.mem_append_right E HMC.out))
  (try simp only at Rg yg Zg Rc yc)
  have RG := Rg
  rw [HLV.out] at RG
  have HAL : ∀ W, Ats w0 W M (E ++ K2) → (∀ i, W.cell? ⟨gp, i, none⟩ = #[Value.slice al n cap0][i]?) ∧ (∀ i, W.cell? ⟨w.heap.size, i, none⟩ = #[Value.int .i64 ck, Value.slice a ni ca, Value.slice b nb cb, Value.bool clk][i]?) := fun W AW => ⟨by rw [← HLV.out]; exact cells_of (AW.box _ HMG.out), cells_of (AW.box _ (List.mem_append_right E HMC.out))⟩
  have HALH := hid' HAL
  clear A6 Rg HAL
  have Rg := RG
  clear RG
  go_cut [] (fun wx => ∃ E', RefB gp (L ++ [c]) E' ∧ Ats w0 wx M (E' ++ K2))
  case first =>
    have CL : ∀ (W : World) (R2 : List (Nat × Obj)) (v : Value) (xs : List Value), xs = joinV rows → Ats w0 W M (R2 ++ (E ++ K2)) → RowG 150 4 R2 v (n + 1) (xs ++ [.int .i64 ck, .slice a ni ca, .slice b nb cb, .bool clk]) → ∃ E', RefB gp (L ++ [c]) E' ∧ Ats w0 (W.setCell ⟨gp, 0, none⟩ v) M (E' ++ K2) := fun W R2 v xs hx AW hR => by
      subst hx
      rw [HE.out] at AW
      exact RefB.grow AW (by rw [HN.out]; exact hR) HRL.out HRC.out HC.out.less (by rw [HN.out]; omega) HUsz.out
    have HCL := hid' CL
    clear CL
    rcases Nat.eq_zero_or_pos n with h0 | hpos
    · have hL : L = [] := List.eq_nil_of_length_eq_zero (by rw [HN.out, h0])
      have hlv := HNIL.out hL
      rw [HLV.out] at hlv
      simp only [Value.slice.injEq] at hlv
      obtain ⟨rfl, -, rfl⟩ := hlv
      subst h0
      have hrows : joinV rows = [] := by
        have := HJ.out
        rw [hL] at this
        exact List.eq_nil_of_length_eq_zero this
      have HJ0 := hid' hrows
      clear hrows hL
      go_region_law (first
        | (refine step_app0 rfl (.tmp 27) (.tmp 29) 83 rfl 150 i0 (.agg #[.int .i64 0, .slice none 0 0, .slice none 0 0, .bool false]) 4 64 Tryz.underRcells hi hz0 hz1 hz2 rfl (by decide) (E ++ K2) (by first | exact HA.out.pure ((Chg.refl NoB w6).alloc _) | exact HA.out.pure (((Chg.refl NoB w6).alloc _).drew)) rfl ⟨w6.heap.size, 0, none⟩ 1 1 [.int .i64 ck, .slice a ni ca, .slice b nb cb, .bool clk] rfl rfl (news_new (T := 150) (fz := (0, 0)) (by first | exact blk_new w6 _ | exact blk_drew (blk_new w6 _))) HO2.out (by decide) (by unfold maxLen; omega) (by omega) ?_; intro g2 cap2 w8 R8 hR8 A8; have HR8 := hid' hR8; have HA8 := hid' A8; clear hR8 A8; have Rg8 := cells_of (HA8.out.box _ (List.mem_append_right R8 HMG.out)); rw [HLV.out] at Rg8; have Zg8 := free_of (HA8.out.box _ (List.mem_append_right R8 HMG.out)); have yg8 := blk_lt (HA8.out.box _ (List.mem_append_right R8 HMG.out)))
        | fail)
      all_goals
        go_wp2_with fail
        go_meet
        exact HCL.out _ R8 _ [] HJ0.out.symm HA8.out HR8.out
    · obtain ⟨g, cur, hal, mg, hcl, hct, hjl⟩ : ∃ g cur, al = some ⟨g, 0, none⟩ ∧ (g, Obj.cells cur 150) ∈ E ++ K2 ∧ cap0 ≤ maxLen ∧ cur.toList.take (n * 4) = joinV rows ∧ (joinV rows).length = n * 4 := by
        have hr := HR.out
        rw [HLV.out, HN.out] at hr
        rcases hr with ⟨hv, h0, -⟩ | ⟨g, cap, cur, hv, hR', h1, h2, h3, h4, h5⟩
        · omega
        · simp only [Value.slice.injEq, true_and] at hv
          obtain ⟨rfl, rfl⟩ := hv
          exact ⟨g, cur, rfl, by rw [HE.out, hR']; simp, h2, h4, h5⟩
      subst hal
      have HT := hid' hct
      have HJ1 := hid' hjl
      have HMg := hid' mg
      clear hct hjl mg
      go_region_law (first
        | (refine step_app0 rfl (.const (.slice none 0 0)) (.tmp 26) 83 rfl 150 i0 (.agg #[.int .i64 0, .slice none 0 0, .slice none 0 0, .bool false]) 4 64 Tryz.underRcells hi hz0 hz1 hz2 rfl (by decide) ((w6.heap.size, (Obj.cells #[.int .i64 ck, .slice a ni ca, .slice b nb cb, .bool clk] 150)) :: (E ++ K2)) (by first | exact (HA.out.alloc _) | exact (HA.out.alloc _).drew) rfl ⟨g, 0, none⟩ n cap0 (joinV rows) rfl HJ1.out (news_take (by first | exact (blk_alloc (HA.out.box _ HMg.out) _) | exact blk_drew (blk_alloc (HA.out.box _ HMg.out) _)) (n * 4) _ HT.out) HO1.out hpos (by unfold maxLen; omega) (by omega) ?_; intro g1 cap1 w7 R7 hR7 A7; have HR7 := hid' hR7; have HA7 := hid' A7; clear hR7 A7; obtain ⟨Rg7, Rc7⟩ := HALH.out w7 (HA7.out.keep (((List.sublist_cons_self _ _)).trans (List.sublist_append_right _ _))))
        | (refine step_app0 rfl (.const (.slice none 0 0)) (.tmp 26) 83 rfl 150 i0 (.agg #[.int .i64 0, .slice none 0 0, .slice none 0 0, .bool false]) 4 64 Tryz.underRcells hi hz0 hz1 hz2 rfl (by decide) (E ++ K2) (by first | exact HA.out | exact HA.out.drew) rfl ⟨g, 0, none⟩ n cap0 (joinV rows) rfl HJ1.out (news_take (by first | exact (HA.out.box _ HMg.out) | exact blk_drew (HA.out.box _ HMg.out)) (n * 4) _ HT.out) HO1.out hpos (by unfold maxLen; omega) (by omega) ?_; intro g1 cap1 w7 R7 hR7 A7; have HR7 := hid' hR7; have HA7 := hid' A7; clear hR7 A7; obtain ⟨Rg7, Rc7⟩ := HALH.out w7 (HA7.out.keep (List.sublist_append_right _ _)))
        | (refine step_app rfl (.tmp 27) (.tmp 29) 83 rfl 150 i0 (.agg #[.int .i64 0, .slice none 0 0, .slice none 0 0, .bool false]) 4 64 Tryz.underRcells hi hz0 hz1 hz2 rfl (by decide) R7 (E ++ K2) (.slice (some ⟨g1, 0, none⟩) n cap1) n (joinV rows) (by first | exact HA7.out.pure ((Chg.refl NoB w7).alloc _) | exact HA7.out.pure (((Chg.refl NoB w7).alloc _).drew)) HR7.out rfl ⟨w7.heap.size, 0, none⟩ 1 1 [.int .i64 ck, .slice a ni ca, .slice b nb cb, .bool clk] rfl rfl (news_new (T := 150) (fz := (0, 0)) (by first | exact blk_new w7 _ | exact blk_drew (blk_new w7 _))) HO2.out (by decide) (by unfold maxLen; omega) (by omega) ?_; intro g2 cap2 w8 R8 hR8 A8; have HR8 := hid' hR8; have HA8 := hid' A8; clear hR8 A8; have Rg8 := cells_of (HA8.out.box _ (List.mem_append_right R8 HMG.out)); rw [HLV.out] at Rg8; have Zg8 := free_of (HA8.out.box _ (List.mem_append_right R8 HMG.out)); have yg8 := blk_lt (HA8.out.box _ (List.mem_append_right R8 HMG.out)))
        | (refine step_app rfl (.tmp 27) (.tmp 29) 83 rfl 150 i0 (.agg #[.int .i64 0, .slice none 0 0, .slice none 0 0, .bool false]) 4 64 Tryz.underRcells hi hz0 hz1 hz2 rfl (by decide) R7 ((w6.heap.size, (Obj.cells #[.int .i64 ck, .slice a ni ca, .slice b nb cb, .bool clk] 150)) :: (E ++ K2)) (.slice (some ⟨g1, 0, none⟩) n cap1) n (joinV rows) (by first | exact HA7.out | exact HA7.out.drew) HR7.out rfl ⟨w6.heap.size, 0, none⟩ 1 1 [.int .i64 ck, .slice a ni ca, .slice b nb cb, .bool clk] rfl rfl (news_box (T := 150) (fz := (0, 0)) (by first | exact HA7.out | exact HA7.out.drew) (List.mem_append_right R7 (List.mem_cons_self ..))) HO2.out (by decide) (by unfold maxLen; omega) (by omega) ?_; intro g2 cap2 w8 R8 hR8 A8b; have A8 := A8b.keep (List.Sublist.append_left (List.sublist_cons_self _ _) R8); clear A8b; have HR8 := hid' hR8; have HA8 := hid' A8; clear hR8 A8; have Rg8 := cells_of (HA8.out.box _ (List.mem_append_right R8 HMG.out)); rw [HLV.out] at Rg8; have Zg8 := free_of (HA8.out.box _ (List.mem_append_right R8 HMG.out)); have yg8 := blk_lt (HA8.out.box _ (List.mem_append_right R8 HMG.out)))
        | fail)
      all_goals
        go_wp2_with fail
        go_meet
        exact HCL.out _ R8 _ _ rfl HA8.out HR8.out
  case rest =>
    obtain ⟨E', hR', A9⟩ := hcut
    generalize wc = w9 at *
    obtain ⟨lv9, mG9, hrow9⟩ := hR'.parts
    obtain ⟨a9, c9, rfl, hc9⟩ : ∃ a9 c9, lv9 = .slice a9 (n + 1) c9 ∧ n + 1 ≤ c9 := by
      rcases hrow9 with ⟨h, -⟩ | ⟨g, cap, cur, rfl, h, -⟩
      · simp at h
      · rw [List.length_append, HN.out] at h ⊢
        exact ⟨_, _, rfl, h⟩
    have HR9 := hid' hR'
    have HM9 := hid' (List.mem_append_left K2 mG9)
    clear hrow9 hR' mG9 Rg yg Zg Rc yc HALH HA HMG HUH
    (try clear Rg); (try clear yg); (try clear Zg)
    have Rg := cells_of (A9.box _ HM9.out)
    have yg := blk_lt (A9.box _ HM9.out)
    (try clear Rc); (try clear yc); (try clear Zc)
    have Rc := cells_of (A9.box _ (List.mem_append_right E' HMC.out))
    have yc := blk_lt (A9.box _ (List.mem_append_right E' HMC.out))
    (try simp only at Rg yg Rc yc)
    have hw1 : IntKind.i64.wrap ((n : Int) + 1 - 1) = n := by rw [IntWalk.i64_in _ (by omega)]; omega
    have hw2 : IntKind.i64.wrap (((n + 1 : Nat) : Int) - 1) = n := by rw [IntWalk.i64_in _ (by omega)]; omega
    go_upto_region 4 with (fail)
    go_cut [6] (fun s6 wx => ∃ q, s6 = .pointer (some ⟨q, 0, none⟩) ∧ Ats w0 wx M ((q, Obj.cells #[.int .i64 ck, .bool false, .int .i64 n, .int .i64 0, .int .i64 0, .string ⟨#[]⟩] 38) :: (E' ++ K2)))
    case first =>
      go_region
      all_goals
        go_wp2_with fail
        go_meet
        first
          | with_reducible exact ⟨_, rfl, A9.alloc _⟩
          | with_reducible exact ⟨_, rfl, (A9.alloc _).drew⟩
          | with_reducible exact ⟨_, rfl, A9.drew.alloc _⟩
          | with_reducible exact ⟨_, rfl, (A9.drew.alloc _).drew⟩
          | with_reducible exact ⟨_, rfl, (A9.alloc _).drew.putO ck false n 0 0 ⟨#[]⟩⟩
          | with_reducible exact ⟨_, rfl, (A9.alloc _).putO ck false n 0 0 ⟨#[]⟩⟩
    case rest =>
      obtain ⟨q, rfl, A10⟩ := hcut
      generalize wc = w10 at *
      clear Rg yg Rc yc A9 hw1 hw2
      have mR0 := HMR.out
      by_cases hk10 : ck = 10
      · obtain rfl : (0 : Int) = lo := by rw [← HLO.out, if_pos hk10]
        have HK10 := hid' hk10
        subst hk10
        (try clear Rq); (try clear yq); (try clear Zq)
        have Rq := cells_of (A10.box _ m0)
        have yq := blk_lt (A10.box _ m0)
        (try clear Rc); (try clear yc); (try clear Zc)
        have Rc := cells_of (A10.box _ (List.mem_cons_of_mem _ (List.mem_append_right E' HMC.out)))
        have yc := blk_lt (A10.box _ (List.mem_cons_of_mem _ (List.mem_append_right E' HMC.out)))
        (try clear Rr); (try clear yr); (try clear Zr)
        have Rr := cells_of (A10.box _ (List.mem_cons_of_mem _ (List.mem_append_right E' HMR.out)))
        have yr := blk_lt (A10.box _ (List.mem_cons_of_mem _ (List.mem_append_right E' HMR.out)))
        have Zr := free_of (A10.box _ (List.mem_cons_of_mem _ (List.mem_append_right E' HMR.out)))
        (try simp only at Rq yq Rc yc Rr yr Zr)
        go_wp2_with fail
        have A11 := (Ats.outR A10 HK2.out).putO 10 false n 0 0 ⟨#[]⟩
        have R11 := cells_of (A11.box _ m0)
        refine bodyPost_ret (v := .tuple #[O.val (⟨10, false, n, 0, 0, ⟨#[]⟩⟩ : O), .int .i64 0]) ?_ rfl ⟨rfl, E', HR9.out, A11.keep (List.sublist_cons_self _ _)⟩
        simp [results, Tryz.results98, go_sem, R11]
      · obtain rfl : Z = lo := by rw [← HLO.out, if_neg hk10, HZ.out]
        have hkc : (ck == 10) = false := by simpa using hk10
        clear hk10
        (try clear Rq); (try clear yq); (try clear Zq)
        have Rq := cells_of (A10.box _ m0)
        have yq := blk_lt (A10.box _ m0)
        have Zq := free_of (A10.box _ m0)
        (try clear Rc); (try clear yc); (try clear Zc)
        have Rc := cells_of (A10.box _ (List.mem_cons_of_mem _ (List.mem_append_right E' HMC.out)))
        have yc := blk_lt (A10.box _ (List.mem_cons_of_mem _ (List.mem_append_right E' HMC.out)))
        (try simp only at Rq yq Zq Rc yc)
        go_wp2_with fail
        refine (HSH.out _).mono ?_
        rintro r w11 ⟨rfl, X11⟩
        have A12 := A10.pure X11
        clear A10 X11 hkc
        (try clear Rq); (try clear yq); (try clear Zq)
        have Rq := cells_of (A12.box _ m0)
        have yq := blk_lt (A12.box _ m0)
        have Zq := free_of (A12.box _ m0)
        (try simp only at Rq yq Zq)
        have A13 := A12.put 4 (.int .i64 Z)
        simp only [List.setIfInBounds_toArray, List.set_cons_zero, List.set_cons_succ] at A13
        go_upto_region 7 with (fail)
        generalize hW : w11.setCell _ _ = w13 at *
        clear hW A12
        (try clear Rq); (try clear yq); (try clear Zq)
        have Rq := cells_of (A13.box _ m0)
        have yq := blk_lt (A13.box _ m0)
        (try clear Rr); (try clear yr); (try clear Zr)
        have Rr := cells_of (A13.box _ (List.mem_cons_of_mem _ (List.mem_append_right E' HMR.out)))
        have yr := blk_lt (A13.box _ (List.mem_cons_of_mem _ (List.mem_append_right E' HMR.out)))
        have Zr := free_of (A13.box _ (List.mem_cons_of_mem _ (List.mem_append_right E' HMR.out)))
        (try simp only at Rq yq Rr yr Zr)
        go_wp2_with fail
        have A14 := (Ats.outR A13 HK2.out).putO ck false n 0 Z ⟨#[]⟩
        have R14 := cells_of (A14.box _ m0)
        refine bodyPost_ret (v := .tuple #[O.val (⟨ck, false, n, 0, Z, ⟨#[]⟩⟩ : O), .int .i64 0]) ?_ rfl ⟨rfl, E', HR9.out, A14.keep (List.sublist_cons_self _ _)⟩
        simp [results, Tryz.results98, go_sem, R14]
theorem addE_two (L : List C) (c : C) : addE L c = 0 ∨ addE L c = 5 := by unfold addE; split <;> simp
/-- The reference's make, whole. -/
theorem rmake_any {w0 w : World} {M : List (Nat × List C)} {E K : List (Nat × Obj)} {gp : Nat} {L : List C} {c : C} {ck : Int} {vi vb : Value} {clk : Bool} (H : RefB gp L E) (A : Ats w0 w M (E ++ K)) (hc : CellIn E c [.int .i64 ck, vi, vb, .bool clk]) (hb : c.size ≤ 100000) :
    Calls Tryz.prog 98 #[ptr gp, .agg #[.int .i64 ck, vi, vb, .bool clk]] w fun e w' => e = .returned (.tuple #[(if addE L c = 0 then objOf L c else O.nil).val, .int .i64 (addE L c)]) ∧ ∃ E', RefB gp (if addE L c = 0 then L ++ [c] else L) E' ∧ Ats w0 w' M (E' ++ K) := by
  by_cases he : addE L c = 0
  · rw [if_pos he, if_pos he, he]
    exact rmake_ok H A hc hb he
  · rw [if_neg he, if_neg he, (addE_two L c).resolve_left he]
    exact (rmake_err H A hc hb he).mono fun e w' h => ⟨h.1, E, H, h.2⟩
theorem rmake_h {w0 w : World} {M : List (Nat × List C)} {E K : List (Nat × Obj)} {gp : Nat} {L L' : List C} {c : C} {ck : Int} {vi vb : Value} {clk : Bool} {o : O} {e : Int} (H : RefB gp L E) (A : Ats w0 w M (E ++ K)) (hc : CellIn E c [.int .i64 ck, vi, vb, .bool clk]) (hb : c.size ≤ 100000) (hr : makeH L c = (L', o, e)) :
    Calls Tryz.prog 98 #[ptr gp, .agg #[.int .i64 ck, vi, vb, .bool clk]] w fun r w' => r = .returned (.tuple #[o.val, .int .i64 e]) ∧ ∃ E', RefB gp L' E' ∧ Ats w0 w' M (E' ++ K) := by
  unfold makeH at hr
  by_cases he : addE L c = 0
  · rw [if_neg (by simp [he])] at hr
    simp only [Prod.mk.injEq] at hr
    obtain ⟨rfl, rfl, rfl⟩ := hr
    exact rmake_ok H A hc hb he
  · rw [if_pos he] at hr
    simp only [Prod.mk.injEq] at hr
    obtain ⟨rfl, rfl, rfl⟩ := hr
    exact (rmake_err H A hc hb he).mono fun e w' h => ⟨h.1, E, H, h.2⟩
end Go.Proofs.YteglbjcdlekbpaaGreat
/- The reference's heap: String. -/
namespace Go.Proofs.YteglbjcdlekbpaaGreat
open Go.RowKit

theorem str_in (w : World) (s : ByteArray) (hs : s.size ≤ 40000) (J : List (Nat × Obj)) : RowIn ((w.heap.size, .cells (strCells w s) 5 ((strCells w s).size, (strCells w s).size + 1)) :: J) 5 1 (.slice (some ⟨w.heap.size, 0, none⟩) s.size (strCap w s)) s.size (s.toList.map vu8) := by
  have e : s.toList.length = s.size := by rw [ByteArray.toList_eq]; rfl
  refine .inr ⟨w.heap.size, strCap w s, strCells w s, _, rfl, List.mem_cons_self .., strCap_ge w s, strCap_le w s (by unfold maxLen; omega), by rw [strCells_size]; omega, ?_, by simp [e]⟩
  simp only [strCells, Array.toList_append, Nat.mul_one, Array.toList_map]
  rw [List.take_append_of_le_length (by simp), ByteArray.toList_eq, List.take_of_length_le (by simp)]
set_option maxRecDepth 100000 in
set_option maxHeartbeats 1000000 in
theorem rstr_any {w0 w : World} {M : List (Nat × List C)} {E K : List (Nat × Obj)} {gp : Nat} {L L' : List C} {o : O} {e : Int} (H : RefB gp L E) (A : Ats w0 w M (E ++ K)) (s : ByteArray) (hr : stringH L s = (L', o, e)) :
    Calls Tryz.prog 57 #[ptr gp, .string s] w fun r w' => r = .returned (.tuple #[o.val, .int .i64 e]) ∧ ∃ E', RefB gp L' E' ∧ Ats w0 w' M (E' ++ K) := by
  unfold stringH at hr
  have A1 := A.alloc (Obj.cells #[.int .i64 0, .bool false, .int .i64 0, .int .i64 0, .int .i64 0, .string ⟨#[]⟩] 38)
  by_cases h1 : 40000 < s.size
  · rw [if_pos h1] at hr
    simp only [Prod.mk.injEq] at hr
    obtain ⟨rfl, rfl, rfl⟩ := hr
    have h1' : (40000 : Int) < (s.size : Int) := by omega
    clear h1
    go_enter Tryz.func57, Tryz.ntmps57
    go_wp2_with fail
    refine bodyPost_ret (v := .tuple #[O.nil.val, .int .i64 5]) (by simp [results, Tryz.results57, go_sem, O.nil]) rfl ⟨rfl, E, H, A1.keep (List.sublist_cons_self _ _)⟩
  · rw [if_neg h1] at hr
    have h1' : (s.size : Int) ≤ 40000 := by omega
    have hcv := fun W => run_str_bytes s W
    have A2 := A1.got (strW_chg _ s) (strW_blk _ s) (Nat.le_refl _)
    have A3 : Ats w0 (strW (w.alloc (Obj.cells #[.int .i64 0, .bool false, .int .i64 0, .int .i64 0, .int .i64 0, .string ⟨#[]⟩] 38)) s) M ((((w.alloc (Obj.cells #[.int .i64 0, .bool false, .int .i64 0, .int .i64 0, .int .i64 0, .string ⟨#[]⟩] 38)).heap.size, Obj.cells (strCells (w.alloc (Obj.cells #[.int .i64 0, .bool false, .int .i64 0, .int .i64 0, .int .i64 0, .string ⟨#[]⟩] 38)) s) 5 ((strCells (w.alloc (Obj.cells #[.int .i64 0, .bool false, .int .i64 0, .int .i64 0, .int .i64 0, .string ⟨#[]⟩] 38)) s).size, (strCells (w.alloc (Obj.cells #[.int .i64 0, .bool false, .int .i64 0, .int .i64 0, .int .i64 0, .string ⟨#[]⟩] 38)) s).size + 1)) :: E) ++ ((w.heap.size, Obj.cells #[.int .i64 0, .bool false, .int .i64 0, .int .i64 0, .int .i64 0, .string ⟨#[]⟩] 38) :: K)) := A2.perm (List.perm_middle.symm.cons _)
    have H3 := H.more ((w.alloc (Obj.cells #[.int .i64 0, .bool false, .int .i64 0, .int .i64 0, .int .i64 0, .string ⟨#[]⟩] 38)).heap.size, Obj.cells (strCells (w.alloc (Obj.cells #[.int .i64 0, .bool false, .int .i64 0, .int .i64 0, .int .i64 0, .string ⟨#[]⟩] 38)) s) 5 ((strCells (w.alloc (Obj.cells #[.int .i64 0, .bool false, .int .i64 0, .int .i64 0, .int .i64 0, .string ⟨#[]⟩] 38)) s).size, (strCells (w.alloc (Obj.cells #[.int .i64 0, .bool false, .int .i64 0, .int .i64 0, .int .i64 0, .string ⟨#[]⟩] 38)) s).size + 1))
    have hsl : s.toList.length = s.size := by rw [ByteArray.toList_eq]; rfl
    have hci := str_in (w.alloc (Obj.cells #[.int .i64 0, .bool false, .int .i64 0, .int .i64 0, .int .i64 0, .string ⟨#[]⟩] 38)) s (by omega) E
    have hc : CellIn (((w.alloc (Obj.cells #[.int .i64 0, .bool false, .int .i64 0, .int .i64 0, .int .i64 0, .string ⟨#[]⟩] 38)).heap.size, Obj.cells (strCells (w.alloc (Obj.cells #[.int .i64 0, .bool false, .int .i64 0, .int .i64 0, .int .i64 0, .string ⟨#[]⟩] 38)) s) 5 ((strCells (w.alloc (Obj.cells #[.int .i64 0, .bool false, .int .i64 0, .int .i64 0, .int .i64 0, .string ⟨#[]⟩] 38)) s).size, (strCells (w.alloc (Obj.cells #[.int .i64 0, .bool false, .int .i64 0, .int .i64 0, .int .i64 0, .string ⟨#[]⟩] 38)) s).size + 1)) :: E) ⟨true, false, false, [], s.toList⟩ [.int .i64 8, .slice none 0 0, .slice (some ⟨(w.alloc (Obj.cells #[.int .i64 0, .bool false, .int .i64 0, .int .i64 0, .int .i64 0, .string ⟨#[]⟩] 38)).heap.size, 0, none⟩) s.size (strCap (w.alloc (Obj.cells #[.int .i64 0, .bool false, .int .i64 0, .int .i64 0, .int .i64 0, .string ⟨#[]⟩] 38)) s), .bool false] :=
      ⟨_, _, rfl, .inl ⟨rfl, rfl, rfl⟩, by simp only; rw [hsl]; exact hci, fun _ => rfl, fun h => by simp at h⟩
    have HM := rmake_h H3 A3 hc (by simp only [C.size, if_true]; rw [hsl]; omega) hr
    simp only [World.size_alloc] at HM
    have HM := hid' HM
    clear hc hci H3 A3 A2 hsl h1 A1 hr
    obtain ⟨ok, ox, on, op, ol, os⟩ := o
    go_enter Tryz.func57, Tryz.ntmps57
    go_wp2_with fail
    refine HM.out.mono ?_
    rintro r w2 ⟨rfl, E', H', A4⟩
    have A5 := A4.perm List.perm_middle
    (try clear Rr); (try clear yr); (try clear Zr)
    have Rr := cells_of (A5.box _ m0)
    have yr := blk_lt (A5.box _ m0)
    have Zr := free_of (A5.box _ m0)
    (try simp only at Rr yr Zr)
    have A6 := A5.putO ok ox on op ol os
    go_wp2_with fail
    have R6 := cells_of (A6.box _ m0)
    refine bodyPost_ret (v := .tuple #[O.val (⟨ok, ox, on, op, ol, os⟩ : O), .int .i64 e]) ?_ rfl ⟨rfl, E', H', A6.keep (List.sublist_cons_self _ _)⟩
    simp [results, Tryz.results57, go_sem, R6]
end Go.Proofs.YteglbjcdlekbpaaGreat
/- The reference's operands: Push. -/
namespace Go.Proofs.YteglbjcdlekbpaaGreat
open Go.RowKit

abbrev tBox (lv : Value) : Obj := .cells #[lv] 92
/-- The boxes of the reference's operands. -/
def RefS (tp : Nat) (l : List O) (E : List (Nat × Obj)) : Prop :=
  ∃ R lv, E = R ++ [(tp, tBox lv)] ∧ RowG 38 6 R lv l.length (l.flatMap O.cells) ∧ l.length ≤ 200 ∧ (l = [] → lv = .slice none 0 0)
theorem RefS.new (tp : Nat) : RefS tp [] [(tp, tBox (.slice none 0 0))] := ⟨[], _, rfl, .inl ⟨rfl, rfl, rfl, rfl⟩, by simp, fun _ => rfl⟩
theorem RefS.parts {tp : Nat} {l : List O} {E : List (Nat × Obj)} (h : RefS tp l E) : ∃ lv, (tp, tBox lv) ∈ E ∧ ((l = [] ∧ lv = .slice none 0 0) ∨ ∃ g cap cur, lv = .slice (some ⟨g, 0, none⟩) l.length cap ∧ l.length ≤ cap ∧ cap ≤ maxLen ∧ (g, Obj.cells cur 38) ∈ E ∧ 0 < l.length ∧ cur.toList.take (l.length * 6) = l.flatMap O.cells ∧ ∀ i, i < l.length * 6 → cur[i]? = (l.flatMap O.cells)[i]?) := by
  obtain ⟨R, lv, rfl, hr, h1, h2⟩ := h
  refine ⟨lv, by simp, ?_⟩
  by_cases hl : l = []
  · exact .inl ⟨hl, h2 hl⟩
  · have hpos := List.length_pos_iff.2 hl
    rcases hr with ⟨-, h0, -⟩ | ⟨g, cap, cur, rfl, rfl, c1, c2, c3, c4, c5⟩
    · omega
    · exact .inr ⟨g, cap, cur, rfl, c1, c2, by simp, hpos, c4, fun i hi => by rw [← c4, List.getElem?_take_of_lt hi, Array.getElem?_toList]⟩
theorem RefS.grow {w0 w : World} {M : List (Nat × List C)} {K R R2 : List (Nat × Obj)} {tp : Nat} {l : List O} {lv v : Value} {o : O}
    (A : Ats w0 w M (R2 ++ ((R ++ [(tp, tBox lv)]) ++ K))) (hR : RowG 38 6 R2 v (l.length + 1) (l.flatMap O.cells ++ o.cells)) (h1 : l.length < 200) :
    ∃ E', RefS tp (l ++ [o]) E' ∧ Ats w0 (w.setCell ⟨tp, 0, none⟩ v) M (E' ++ K) := by
  have A1 := ((A.perm (K' := (tp, tBox lv) :: (R ++ (R2 ++ K))) ?_).put 0 v)
  · have A2 : Ats w0 (w.setCell ⟨tp, 0, none⟩ v) M ((tp, tBox v) :: (R ++ (R2 ++ K))) := A1
    refine ⟨R2 ++ [(tp, tBox v)], ⟨R2, v, rfl, ?_, by simp; omega, fun h => by simp at h⟩, (A2.keep (K' := (tp, tBox v) :: (R2 ++ K)) ((List.sublist_append_right _ _).cons_cons _)).perm ?_⟩
    · rw [List.length_append, List.length_singleton, List.flatMap_append, List.flatMap_singleton]
      exact hR
    · classical refine List.perm_iff_count.2 fun q => ?_
      simp only [List.count_append, List.count_cons, List.count_nil]
      omega
  · classical refine List.perm_iff_count.2 fun q => ?_
    simp only [List.count_append, List.count_cons, List.count_nil]
    omega
set_option maxRecDepth 100000 in
set_option maxHeartbeats 4000000 in
theorem rpush_any {w0 w : World} {M : List (Nat × List C)} {E K : List (Nat × Obj)} {tp : Nat} {l : List O} (H : RefS tp l E) (A : Ats w0 w M (E ++ K)) (o : O) (hm : mayO o = true) (hl : l.length < 200) :
    Calls Tryz.prog 58 #[ptr tp, o.val] w fun e w' => e = .returned (.int .i64 0) ∧ ∃ E', RefS tp (l ++ [o]) E' ∧ Ats w0 w' M (E' ++ K) := by
  obtain ⟨i0, hi, hz0, hz1, hz2⟩ := info_parts Tryz.infoObj
  obtain ⟨lvP, hmemP, hrow⟩ := H.parts
  obtain ⟨R, lv, hE, hR, -, hnil⟩ := H
  have HMay := hid' (fun w => rmay_any o w)
  rw [hm] at HMay
  obtain ⟨n, hn⟩ : ∃ n, l.length = n := ⟨_, rfl⟩
  obtain ⟨kk, kx, kn, kp, kl, ks⟩ := o
  obtain ⟨K2, hK2⟩ : ∃ K2, K2 = (w.heap.size, Obj.cells #[.int .i64 kk, .bool kx, .int .i64 kn, .int .i64 kp, .int .i64 kl, .string ks] 38) :: K := ⟨_, rfl⟩
  have A2 : Ats w0 (w.alloc (Obj.cells #[.int .i64 kk, .bool kx, .int .i64 kn, .int .i64 kp, .int .i64 kl, .string ks] 38)) M (E ++ K2) := by rw [hK2]; exact (A.alloc _).perm List.perm_middle.symm
  have mC : (w.heap.size, Obj.cells #[.int .i64 kk, .bool kx, .int .i64 kn, .int .i64 kp, .int .i64 kl, .string ks] 38) ∈ E ++ K2 := by rw [hK2]; simp
  have mG : (tp, tBox lv) ∈ E ++ K2 := by rw [hE]; simp
  obtain ⟨cap0, al, hlv, hcap⟩ : ∃ cap al, lv = .slice al n cap ∧ n ≤ cap := by
    rcases hR with ⟨rfl, h0, -⟩ | ⟨g, cap, cur, rfl, -, h, -⟩
    · exact ⟨0, none, by rw [← hn, h0], by omega⟩
    · exact ⟨_, _, by rw [hn], by omega⟩
  have HN := hid' hn
  have HE := hid' hE
  have HR := hid' hR
  have HK2 := hid' hK2
  have HNIL := hid' hnil
  have HLV := hid' hlv
  have HMG := hid' mG
  have HMC := hid' mC
  have hjl : (l.flatMap O.cells).length = l.length * 6 := flat_length O.cells 6 cells_length l
  have HJ := hid' hjl
  have hn1 : (n : Int) < 200 := by omega
  have hm1 := hm
  clear hn hE hR hK2 hnil hlv mG mC hjl hrow hmemP A hm
  go_enter Tryz.func58, Tryz.ntmps58
  go_wp2_with fail
  refine (HMay.out _).mono ?_
  rintro r w2 ⟨rfl, X2⟩
  have A3 := A2.pure X2
  clear A2 X2
  generalize w2 = w6 at *
  (try clear Rg); (try clear yg); (try clear Zg)
  have Rg := cells_of (A3.box _ HMG.out)
  have yg := blk_lt (A3.box _ HMG.out)
  have Zg := free_of (A3.box _ HMG.out)
  (try clear Rc); (try clear yc); (try clear Zc)
  have Rc := cells_of (A3.box _ HMC.out)
  have yc := blk_lt (A3.box _ HMC.out)
  (try simp only at Rg yg Zg Rc yc)
  rw [HLV.out] at Rg
  have HA := hid' A3
  have HALH := hid' (fun W (AW : Ats w0 W M (E ++ K2)) => (⟨by rw [← HLV.out]; exact cells_of (AW.box _ HMG.out), cells_of (AW.box _ HMC.out)⟩ : (∀ i, W.cell? ⟨tp, i, none⟩ = #[Value.slice al n cap0][i]?) ∧ (∀ i, W.cell? ⟨w.heap.size, i, none⟩ = #[Value.int .i64 kk, .bool kx, .int .i64 kn, .int .i64 kp, .int .i64 kl, .string ks][i]?)))
  clear A3
  go_upto_region 5 with (fail)
  have CL : ∀ (W : World) (R2 : List (Nat × Obj)) (v : Value) (xs : List Value), xs = l.flatMap O.cells → Ats w0 W M (R2 ++ (E ++ K2)) → RowG 38 6 R2 v (n + 1) (xs ++ (O.cells ⟨kk, kx, kn, kp, kl, ks⟩)) → ∃ E', RefS tp (l ++ [⟨kk, kx, kn, kp, kl, ks⟩]) E' ∧ Ats w0 (W.setCell ⟨tp, 0, none⟩ v) M (E' ++ K2) := fun W R2 v xs hx AW hR => by
    subst hx
    rw [HE.out] at AW
    exact RefS.grow AW (by rw [HN.out]; exact hR) (by rw [HN.out]; omega)
  have HCL := hid' CL
  clear CL
  have FIN : ∀ W E', Ats w0 W M (E' ++ K2) → Ats w0 W M (E' ++ K) := fun W E' AW => AW.keep (List.Sublist.append_left (by rw [HK2.out]; exact List.sublist_cons_self _ _) _)
  have HFIN := hid' FIN
  clear FIN
  rcases Nat.eq_zero_or_pos n with h0 | hpos
  · have hL : l = [] := List.eq_nil_of_length_eq_zero (by rw [HN.out, h0])
    have hlv := HNIL.out hL
    rw [HLV.out] at hlv
    simp only [Value.slice.injEq] at hlv
    obtain ⟨rfl, -, rfl⟩ := hlv
    subst h0
    have HJ0 := hid' (show l.flatMap O.cells = [] by rw [hL]; rfl)
    clear hL
    go_region_law (first
      | (refine step_app0 rfl (.tmp 21) (.tmp 23) 48 rfl 38 i0 O.nil.val 6 56 Tryz.underObjs hi hz0 hz1 hz2 rfl (by decide) (E ++ K2) (by first | exact HA.out.pure ((Chg.refl NoB w6).alloc _) | exact HA.out.pure (((Chg.refl NoB w6).alloc _).drew)) rfl ⟨w6.heap.size, 0, none⟩ 1 1 (O.cells ⟨kk, kx, kn, kp, kl, ks⟩) rfl rfl (news_new (T := 38) (fz := (0, 0)) (by first | exact blk_new w6 _ | exact blk_drew (blk_new w6 _))) (one6' _) (by decide) (by unfold maxLen; omega) (by omega) ?_; intro g2 cap2 w8 R8 hR8 A8; have HR8 := hid' hR8; have HA8 := hid' A8; clear hR8 A8; have Rg8 := cells_of (HA8.out.box _ (List.mem_append_right R8 HMG.out)); rw [HLV.out] at Rg8; have Zg8 := free_of (HA8.out.box _ (List.mem_append_right R8 HMG.out)); have yg8 := blk_lt (HA8.out.box _ (List.mem_append_right R8 HMG.out)))
      | fail)
    all_goals
      obtain ⟨E', hS', A9⟩ := HCL.out _ R8 _ [] HJ0.out.symm HA8.out HR8.out
      go_wp2_with fail
      go_ret
      exact ⟨rfl, E', hS', HFIN.out _ _ A9⟩
  · obtain ⟨g, cur, hal, mg, hcl, hct, hjl⟩ : ∃ g cur, al = some ⟨g, 0, none⟩ ∧ (g, Obj.cells cur 38) ∈ E ++ K2 ∧ cap0 ≤ maxLen ∧ cur.toList.take (n * 6) = l.flatMap O.cells ∧ (l.flatMap O.cells).length = n * 6 := by
      have hr := HR.out
      rw [HLV.out, HN.out] at hr
      rcases hr with ⟨hv, h0, -⟩ | ⟨g, cap, cur, hv, hR', h1, h2, h3, h4, h5⟩
      · omega
      · simp only [Value.slice.injEq, true_and] at hv
        obtain ⟨rfl, rfl⟩ := hv
        exact ⟨g, cur, rfl, by rw [HE.out, hR']; simp, h2, h4, h5⟩
    subst hal
    have HT := hid' hct
    have HJ1 := hid' hjl
    have HMg := hid' mg
    clear hct hjl mg
    go_region_law (first
      | (refine step_app0 rfl (.const (.slice none 0 0)) (.tmp 20) 48 rfl 38 i0 O.nil.val 6 56 Tryz.underObjs hi hz0 hz1 hz2 rfl (by decide) ((w6.heap.size, (Obj.cells #[.int .i64 kk, .bool kx, .int .i64 kn, .int .i64 kp, .int .i64 kl, .string ks] 38)) :: (E ++ K2)) (by first | exact (HA.out.alloc _) | exact (HA.out.alloc _).drew) rfl ⟨g, 0, none⟩ n cap0 (l.flatMap O.cells) rfl HJ1.out (news_take (by first | exact (blk_alloc (HA.out.box _ HMg.out) _) | exact blk_drew (blk_alloc (HA.out.box _ HMg.out) _)) (n * 6) _ HT.out) (flat_one l) hpos (by unfold maxLen; omega) (by omega) ?_; intro g1 cap1 w7 R7 hR7 A7; have HR7 := hid' hR7; have HA7 := hid' A7; clear hR7 A7; obtain ⟨Rg7, Rc7⟩ := HALH.out w7 (HA7.out.keep (((List.sublist_cons_self _ _)).trans (List.sublist_append_right _ _))))
      | (refine step_app0 rfl (.const (.slice none 0 0)) (.tmp 20) 48 rfl 38 i0 O.nil.val 6 56 Tryz.underObjs hi hz0 hz1 hz2 rfl (by decide) (E ++ K2) (by first | exact HA.out | exact HA.out.drew) rfl ⟨g, 0, none⟩ n cap0 (l.flatMap O.cells) rfl HJ1.out (news_take (by first | exact (HA.out.box _ HMg.out) | exact blk_drew (HA.out.box _ HMg.out)) (n * 6) _ HT.out) (flat_one l) hpos (by unfold maxLen; omega) (by omega) ?_; intro g1 cap1 w7 R7 hR7 A7; have HR7 := hid' hR7; have HA7 := hid' A7; clear hR7 A7; obtain ⟨Rg7, Rc7⟩ := HALH.out w7 (HA7.out.keep (List.sublist_append_right _ _)))
      | (refine step_app rfl (.tmp 21) (.tmp 23) 48 rfl 38 i0 O.nil.val 6 56 Tryz.underObjs hi hz0 hz1 hz2 rfl (by decide) R7 (E ++ K2) (.slice (some ⟨g1, 0, none⟩) n cap1) n (l.flatMap O.cells) (by first | exact HA7.out.pure ((Chg.refl NoB w7).alloc _) | exact HA7.out.pure (((Chg.refl NoB w7).alloc _).drew)) HR7.out rfl ⟨w7.heap.size, 0, none⟩ 1 1 (O.cells ⟨kk, kx, kn, kp, kl, ks⟩) rfl rfl (news_new (T := 38) (fz := (0, 0)) (by first | exact blk_new w7 _ | exact blk_drew (blk_new w7 _))) (one6' _) (by decide) (by unfold maxLen; omega) (by omega) ?_; intro g2 cap2 w8 R8 hR8 A8; have HR8 := hid' hR8; have HA8 := hid' A8; clear hR8 A8; have Rg8 := cells_of (HA8.out.box _ (List.mem_append_right R8 HMG.out)); rw [HLV.out] at Rg8; have Zg8 := free_of (HA8.out.box _ (List.mem_append_right R8 HMG.out)); have yg8 := blk_lt (HA8.out.box _ (List.mem_append_right R8 HMG.out)))
      | (refine step_app rfl (.tmp 21) (.tmp 23) 48 rfl 38 i0 O.nil.val 6 56 Tryz.underObjs hi hz0 hz1 hz2 rfl (by decide) R7 ((w6.heap.size, (Obj.cells #[.int .i64 kk, .bool kx, .int .i64 kn, .int .i64 kp, .int .i64 kl, .string ks] 38)) :: (E ++ K2)) (.slice (some ⟨g1, 0, none⟩) n cap1) n (l.flatMap O.cells) (by first | exact HA7.out | exact HA7.out.drew) HR7.out rfl ⟨w6.heap.size, 0, none⟩ 1 1 (O.cells ⟨kk, kx, kn, kp, kl, ks⟩) rfl rfl (news_box (T := 38) (fz := (0, 0)) (by first | exact HA7.out | exact HA7.out.drew) (List.mem_append_right R7 (List.mem_cons_self ..))) (one6' _) (by decide) (by unfold maxLen; omega) (by omega) ?_; intro g2 cap2 w8 R8 hR8 A8b; have A8 := A8b.keep (List.Sublist.append_left (List.sublist_cons_self _ _) R8); clear A8b; have HR8 := hid' hR8; have HA8 := hid' A8; clear hR8 A8; have Rg8 := cells_of (HA8.out.box _ (List.mem_append_right R8 HMG.out)); rw [HLV.out] at Rg8; have Zg8 := free_of (HA8.out.box _ (List.mem_append_right R8 HMG.out)); have yg8 := blk_lt (HA8.out.box _ (List.mem_append_right R8 HMG.out)))
      | fail)
    all_goals
      obtain ⟨E', hS', A9⟩ := HCL.out _ R8 _ _ rfl HA8.out HR8.out
      go_wp2_with fail
      go_ret
      exact ⟨rfl, E', hS', HFIN.out _ _ A9⟩
end Go.Proofs.YteglbjcdlekbpaaGreat
/- Walks: the laws' own functions of layer 19: fresh, num, push, text. -/
namespace Go.Proofs.YteglbjcdlekbpaaGreat
open Go.RowKit

abbrev qVal (hp sp gp tp : Nat) : Value := .agg #[ptr hp, ptr sp, ptr gp, ptr tp]
abbrev qBox (hp sp gp tp : Nat) : Obj := .cells #[ptr hp, ptr sp, ptr gp, ptr tp] 59
/-- Operands and a heap, the reference's heap and operands, and boxes that stay. -/
def SeqAt (w0 w : World) (hp sp gp tp : Nat) (L G : List C) (l lt : List O) (K : List (Nat × Obj)) : Prop :=
  ∃ E F, RefB gp G E ∧ RefS tp lt F ∧ StkAt w0 w [(hp, L)] (E ++ (F ++ K)) sp l
/-- A call that works on some of the boxes leaves the operands. -/
theorem StkAt.askE {w0 w : World} {M : List (Nat × List C)} {E K : List (Nat × Obj)} {sp : Nat} {l : List O} {f : Nat} {args : Array Value} {r : Value} {P : List (Nat × Obj) → Prop} (S : StkAt w0 w M (E ++ K) sp l)
    (h : ∀ K', Ats w0 w M (E ++ K') → Calls Tryz.prog f args w fun e w' => e = .returned r ∧ ∃ E', P E' ∧ Ats w0 w' M (E' ++ K')) :
    Calls Tryz.prog f args w fun e w' => e = .returned r ∧ ∃ E', P E' ∧ StkAt w0 w' M (E' ++ K) sp l := by
  obtain ⟨hl, R, lv, hr, A⟩ := S
  have hp : ∀ E : List (Nat × Obj), (R ++ (sp, stkBox lv) :: (E ++ K)).Perm (E ++ (R ++ (sp, stkBox lv) :: K)) := fun E => by
    classical refine List.perm_iff_count.2 fun q => ?_
    simp only [List.count_append, List.count_cons]
    omega
  exact (h _ (A.perm (hp E))).mono fun e w' ⟨h1, E', h2, h3⟩ => ⟨h1, E', h2, hl, R, lv, hr, h3.perm (hp E').symm⟩
theorem seq_str {w0 w : World} {hp sp gp tp : Nat} {L G G' : List C} {l lt : List O} {K : List (Nat × Obj)} {o : O} {e : Int} (S : SeqAt w0 w hp sp gp tp L G l lt K) (s : ByteArray) (hr : stringH G s = (G', o, e)) :
    Calls Tryz.prog 57 #[ptr gp, .string s] w fun r w' => r = .returned (.tuple #[o.val, .int .i64 e]) ∧ SeqAt w0 w' hp sp gp tp L G' l lt K := by
  obtain ⟨E, F, HE, HF, S⟩ := S
  exact (S.askE (P := RefB gp G') (fun K' A => rstr_any HE A s hr)).mono fun e w' ⟨h1, E', h2, h3⟩ => ⟨h1, E', F, h2, HF, h3⟩
theorem seq_tpush {w0 w : World} {hp sp gp tp : Nat} {L G : List C} {l lt : List O} {K : List (Nat × Obj)} (S : SeqAt w0 w hp sp gp tp L G l lt K) (o : O) (hm : mayO o = true) (hl : lt.length < 200) :
    Calls Tryz.prog 58 #[ptr tp, o.val] w fun r w' => r = .returned (.int .i64 0) ∧ SeqAt w0 w' hp sp gp tp L G l (lt ++ [o]) K := by
  obtain ⟨E, F, HE, HF, S⟩ := S
  have hp : ∀ F : List (Nat × Obj), (E ++ (F ++ K)).Perm (F ++ (E ++ K)) := fun F => by
    rw [← List.append_assoc, ← List.append_assoc]; exact List.perm_append_comm.append_right K
  exact ((S.perm (hp F)).askE (P := RefS tp (lt ++ [o])) (fun K' A => rpush_any HF A o hm hl)).mono fun e w' ⟨h1, F', h2, h3⟩ => ⟨h1, E, F', HE, h2, h3.perm (hp F').symm⟩
theorem SeqAt.stk {w0 w : World} {hp sp gp tp : Nat} {L G : List C} {l lt : List O} {K : List (Nat × Obj)} {f : Nat} {args : Array Value} {r : Value} {L' : List C} {l' : List O} (S : SeqAt w0 w hp sp gp tp L G l lt K)
    (h : ∀ K', StkAt w0 w [(hp, L)] K' sp l → Calls Tryz.prog f args w fun e w' => e = .returned r ∧ StkAt w0 w' [(hp, L')] K' sp l') :
    Calls Tryz.prog f args w fun e w' => e = .returned r ∧ SeqAt w0 w' hp sp gp tp L' G l' lt K := by
  obtain ⟨E, F, HE, HF, S⟩ := S
  exact (h _ S).mono fun e w' ⟨h1, h2⟩ => ⟨h1, E, F, HE, HF, h2⟩
theorem SeqAt.pure {w0 w w' : World} {hp sp gp tp : Nat} {L G : List C} {l lt : List O} {K : List (Nat × Obj)} (S : SeqAt w0 w hp sp gp tp L G l lt K) (X : Chg NoB w w') : SeqAt w0 w' hp sp gp tp L G l lt K := by
  obtain ⟨E, F, HE, HF, S⟩ := S
  exact ⟨E, F, HE, HF, S.pure X⟩
theorem SeqAt.drew {w0 w : World} {hp sp gp tp : Nat} {L G : List C} {l lt : List O} {K : List (Nat × Obj)} (S : SeqAt w0 w hp sp gp tp L G l lt K) : SeqAt w0 w.drew hp sp gp tp L G l lt K := S.pure (Chg.refl NoB w).drew
theorem SeqAt.box {w0 w : World} {hp sp gp tp : Nat} {L G : List C} {l lt : List O} {K : List (Nat × Obj)} (S : SeqAt w0 w hp sp gp tp L G l lt K) (q : Nat × Obj) (hq : q ∈ K) : w.heap[q.1]? = some q.2 := by
  obtain ⟨E, F, HE, HF, S⟩ := S
  exact S.box q (List.mem_append_right _ (List.mem_append_right _ hq))
theorem SeqAt.over {w0 w w' : World} {hp sp gp tp : Nat} {L G : List C} {l lt : List O} {K K' : List (Nat × Obj)} (S : SeqAt w0 w hp sp gp tp L G l lt K) (h : ∀ E, StkAt w0 w [(hp, L)] (E ++ K) sp l → StkAt w0 w' [(hp, L)] (E ++ K') sp l) : SeqAt w0 w' hp sp gp tp L G l lt K' := by
  obtain ⟨E, F, HE, HF, S⟩ := S
  exact ⟨E, F, HE, HF, by have := h (E ++ F) (by rw [List.append_assoc]; exact S); rwa [List.append_assoc] at this⟩
theorem SeqAt.alloc {w0 w : World} {hp sp gp tp : Nat} {L G : List C} {l lt : List O} {K : List (Nat × Obj)} (S : SeqAt w0 w hp sp gp tp L G l lt K) (o : Obj) : SeqAt w0 (w.alloc o) hp sp gp tp L G l lt ((w.heap.size, o) :: K) :=
  S.over fun _ A => (A.alloc o).perm List.perm_middle.symm
theorem SeqAt.keep {w0 w : World} {hp sp gp tp : Nat} {L G : List C} {l lt : List O} {K K' : List (Nat × Obj)} (S : SeqAt w0 w hp sp gp tp L G l lt K) (h : K'.Sublist K) : SeqAt w0 w hp sp gp tp L G l lt K' :=
  S.over fun _ A => A.keep (h.append_left _)
theorem SeqAt.perm {w0 w : World} {hp sp gp tp : Nat} {L G : List C} {l lt : List O} {K K' : List (Nat × Obj)} (S : SeqAt w0 w hp sp gp tp L G l lt K) (h : K.Perm K') : SeqAt w0 w hp sp gp tp L G l lt K' :=
  S.over fun _ A => A.perm (h.append_left _)
theorem SeqAt.putO {w0 w : World} {hp sp gp tp : Nat} {L G : List C} {l lt : List O} {K : List (Nat × Obj)} {b : Nat} {c0 c1 c2 c3 c4 c5 : Value} {T : TypeId} (S : SeqAt w0 w hp sp gp tp L G l lt ((b, .cells #[c0, c1, c2, c3, c4, c5] T) :: K)) (kk : Int) (kx : Bool) (kn kp kl : Int) (ks : ByteArray) :
    SeqAt w0 ((((((w.setCell ⟨b, 0, none⟩ (.int .i64 kk)).setCell ⟨b, 1, none⟩ (.bool kx)).setCell ⟨b, 2, none⟩ (.int .i64 kn)).setCell ⟨b, 3, none⟩ (.int .i64 kp)).setCell ⟨b, 4, none⟩ (.int .i64 kl)).setCell ⟨b, 5, none⟩ (.string ks)) hp sp gp tp L G l lt ((b, .cells #[.int .i64 kk, .bool kx, .int .i64 kn, .int .i64 kp, .int .i64 kl, .string ks] T) :: K) :=
  S.over fun _ A => ((A.perm List.perm_middle).putO kk kx kn kp kl ks).perm List.perm_middle.symm
theorem SeqAt.chg {w0 w : World} {hp sp gp tp : Nat} {L G : List C} {l lt : List O} {K : List (Nat × Obj)} (S : SeqAt w0 w hp sp gp tp L G l lt K) : Chg NoB w0 w := by
  obtain ⟨E, F, HE, HF, S⟩ := S
  exact S.chg
set_option maxRecDepth 100000 in
theorem num19_any (n : Int) (w : World) : Calls Tryz.prog 33 #[.int .i64 n] w fun e w' => e = .returned (iO n).val ∧ Chg NoB w w' := by
  go_enter Tryz.func33, Tryz.ntmps33
  go_wp2_with fail
  refine bodyPost_ret (v := (iO n).val) ?_ rfl ⟨rfl, (Chg.refl NoB w).alloc _⟩
  simp [results, Tryz.results33, go_sem]
set_option maxRecDepth 100000 in
theorem fresh19_any {w0 w : World} {K : List (Nat × Obj)} (A : Ats w0 w [] K) :
    Calls Tryz.prog 29 #[] w fun e w' => ∃ hp sp gp tp, e = .returned (qVal hp sp gp tp) ∧ SeqAt w0 w' hp sp gp tp [] [] [] [] K := by
  have A1 := A.alloc (.cells #[.pointer none, .pointer none, .pointer none, .pointer none] 59)
  go_enter Tryz.func29, Tryz.ntmps29
  go_wp2_with fail
  refine (at_hnew A1).mono ?_
  rintro r w2 ⟨hp, rfl, A2⟩
  go_wp2_with fail
  refine (stk_new A2).mono ?_
  rintro r w3 ⟨sp, rfl, S3⟩
  (try clear Ra); (try clear ya); (try clear Za)
  have Ra := cells_of (S3.box _ m0)
  have ya := blk_lt (S3.box _ m0)
  have Za := free_of (S3.box _ m0)
  (try simp only at Ra ya Za)
  have S5 := (((S3.put 0 (ptr hp)).put 1 (ptr sp)).put 2 (ptr w3.heap.size)).put 3 (ptr (w3.heap.size + 1))
  simp only [List.setIfInBounds_toArray, List.set_cons_zero, List.set_cons_succ] at S5
  have S6 := (S5.alloc (refBox (.slice none 0 0))).alloc (tBox (.slice none 0 0))
  simp only [World.size_alloc, World.size_setCell] at S6
  clear A1 A2 S3 S5
  go_wp2_with fail
  have R6 := cells_of (S6.box _ m2)
  refine bodyPost_ret (v := qVal hp sp w3.heap.size (w3.heap.size + 1)) ?_ rfl ⟨hp, sp, _, _, rfl, [(w3.heap.size, refBox (.slice none 0 0))], [(w3.heap.size + 1, tBox (.slice none 0 0))], RefB.new _, RefS.new _, (S6.perm (List.Perm.swap _ _ _)).keep (((List.sublist_cons_self _ _).cons_cons _).cons_cons _)⟩
  simp [results, Tryz.results29, go_sem, R6]
/-- The same, for a drawn region to hold: other operands, boxes more. -/
def QS (w0 : World) (hp sp gp tp : Nat) (L G : List C) (KB : List (Nat × Obj)) (W : World) : Prop := ∃ l lt, SeqAt w0 W hp sp gp tp L G l lt KB
theorem QS.drew {w0 W : World} {hp sp gp tp : Nat} {L G : List C} {KB : List (Nat × Obj)} (h : QS w0 hp sp gp tp L G KB W) : QS w0 hp sp gp tp L G KB W.drew := by
  obtain ⟨l, lt, S⟩ := h; exact ⟨l, lt, S.drew⟩
theorem QS.of {w0 W : World} {hp sp gp tp : Nat} {L G : List C} {l lt : List O} {KB : List (Nat × Obj)} (S : SeqAt w0 W hp sp gp tp L G l lt KB) : QS w0 hp sp gp tp L G KB W := ⟨l, lt, S⟩
theorem QS.cells {w0 : World} {hp sp gp tp g : Nat} {L G : List C} {KB : List (Nat × Obj)} {cs : Array Value} {T : TypeId} {fz : Nat × Nat} (hm : (g, Obj.cells cs T fz) ∈ KB) : ∀ W, QS w0 hp sp gp tp L G KB W → ∀ i, W.cell? ⟨g, i, none⟩ = cs[i]? := by
  rintro W ⟨l, lt, S⟩ i
  exact cells_of (S.box _ hm) i
set_option maxRecDepth 100000 in
theorem push19_any {w0 w : World} {hp sp gp tp : Nat} {L G : List C} {l lt : List O} {K : List (Nat × Obj)} (S : SeqAt w0 w hp sp gp tp L G l lt K) (o : O) (hm : mayO o = true) (hl : l.length < 200) (hlt : lt.length < 200) :
    Calls Tryz.prog 32 #[qVal hp sp gp tp, o.val] w fun e w' => e = .returned (.bool true) ∧ SeqAt w0 w' hp sp gp tp L G (l ++ [o]) (lt ++ [o]) K := by
  have HP := hid' (fun (w' : World) (K' : List (Nat × Obj)) (S' : SeqAt w0 w' hp sp gp tp L G l lt K') => S'.stk (L' := L) (l' := l ++ [o]) (r := .int .i64 0) (fun K2 S2 => stk_push S2 o hm hl))
  have HT := hid' (fun (w' : World) (K' : List (Nat × Obj)) (S' : SeqAt w0 w' hp sp gp tp L G (l ++ [o]) lt K') => seq_tpush S' o hm hlt)
  obtain ⟨kk, kx, kn, kp, kl, ks⟩ := o
  have S1 := (S.alloc (qBox hp sp gp tp)).alloc (Obj.cells #[.int .i64 kk, .bool kx, .int .i64 kn, .int .i64 kp, .int .i64 kl, .string ks] 38)
  simp only [World.size_alloc] at S1
  obtain ⟨KB, hKB⟩ : ∃ KB, KB = (w.heap.size + 1, Obj.cells #[.int .i64 kk, .bool kx, .int .i64 kn, .int .i64 kp, .int .i64 kl, .string ks] 38) :: (w.heap.size, qBox hp sp gp tp) :: K := ⟨_, rfl⟩
  have mO : (w.heap.size + 1, Obj.cells #[.int .i64 kk, .bool kx, .int .i64 kn, .int .i64 kp, .int .i64 kl, .string ks] 38) ∈ KB := by rw [hKB]; exact m0
  have mW : (w.heap.size, qBox hp sp gp tp) ∈ KB := by rw [hKB]; exact m1
  rw [← hKB] at S1
  have HKB := hid' hKB
  have RO := QS.cells (w0 := w0) (hp := hp) (sp := sp) (gp := gp) (tp := tp) (L := L) (G := G) mO
  have RW := QS.cells (w0 := w0) (hp := hp) (sp := sp) (gp := gp) (tp := tp) (L := L) (G := G) mW
  have hS1 := QS.of S1
  have HS := hid' S1
  clear S S1 mO mW hKB hm hl hlt
  go_enter Tryz.func32, Tryz.ntmps32
  go_wp2_with fail
  generalize hW : (w.alloc _).alloc _ = w1 at *
  clear hW
  go_region_held3 (fun W' => QS w0 hp sp gp tp L G KB W') (first | (with_reducible assumption) | (with_reducible exact QS.of S5) | (with_reducible exact QS.of S4) | (with_reducible exact QS.drew (by with_reducible assumption)))
    (first | (go_at_call 19; refine (HP.out _ _ (by first | exact HS.out | exact HS.out.drew)).mono ?_; rintro r w4 ⟨rfl, S4⟩) | (go_at_call 58; refine (HT.out _ _ (by first | exact S4 | exact S4.drew)).mono ?_; rintro r w5 ⟨rfl, S5⟩))
  go_wp2_with fail
  go_ret
  exact ⟨rfl, S5.keep (by rw [HKB.out]; exact (List.sublist_cons_self _ _).trans (List.sublist_cons_self _ _))⟩
set_option maxRecDepth 100000 in
theorem text19_any {w0 w : World} {hp sp gp tp : Nat} {L : List C} {l lt : List O} {K : List (Nat × Obj)} (S : SeqAt w0 w hp sp gp tp L L l lt K) (s : ByteArray) (h1 : L.length < 2000) (h2 : used L + s.size ≤ 40000) (hl : l.length < 200) (hlt : lt.length < 200) :
    Calls Tryz.prog 30 #[qVal hp sp gp tp, .string s] w fun e w' => e = .returned (.bool true) ∧ SeqAt w0 w' hp sp gp tp (L ++ [txt s.toList]) (L ++ [txt s.toList]) (l ++ [strN L.length false 0 s.size]) (lt ++ [strN L.length false 0 s.size]) K := by
  have hr := str_s L s h1 h2
  have HST := hid' (fun (w' : World) (K' : List (Nat × Obj)) (S' : SeqAt w0 w' hp sp gp tp L L l lt K') => S'.stk (L' := L ++ [txt s.toList]) (l' := l) (r := .tuple #[(strN L.length false 0 s.size).val, .int .i64 0]) (fun K2 S2 => S2.ask (fun K3 A => at_string A s hr)))
  have HSG := hid' (fun (w' : World) (K' : List (Nat × Obj)) (S' : SeqAt w0 w' hp sp gp tp (L ++ [txt s.toList]) L l lt K') => seq_str S' s hr)
  have HPU := hid' (fun (w' : World) (K' : List (Nat × Obj)) (S' : SeqAt w0 w' hp sp gp tp (L ++ [txt s.toList]) (L ++ [txt s.toList]) l lt K') => push19_any S' (strN L.length false 0 s.size) (mayO_str _ _ _ _ (by omega) (by omega) (by omega) (by omega) (by omega) (by omega)) hl hlt)
  have S1 := S.alloc (qBox hp sp gp tp)
  (try clear Ra); (try clear ya); (try clear Za)
  have Ra := cells_of (S1.box _ m0)
  have ya := blk_lt (S1.box _ m0)
  (try simp only at Ra ya)
  have hq : eqO ⟨8, false, L.length, 0, s.size, ⟨#[]⟩⟩ ⟨8, false, L.length, 0, s.size, ⟨#[]⟩⟩ = true := eqO_self _
  clear S h1 h2 hl hlt hr
  generalize (L.length : Int) = N at *
  generalize (s.size : Int) = z at *
  go_enter Tryz.func30, Tryz.ntmps30
  go_wp2_with fail
  refine (HST.out _ _ S1).mono ?_
  rintro r w2 ⟨rfl, S2⟩
  have S3 := S2.alloc (.cells #[.int .i64 8, .bool false, .int .i64 N, .int .i64 0, .int .i64 z, .string ⟨#[]⟩] 38)
  (try clear Ra); (try clear ya); (try clear Za)
  have Ra := cells_of (S2.box _ m0)
  have ya := blk_lt (S2.box _ m0)
  (try simp only at Ra ya)
  (try clear Ra); (try clear ya); (try clear Za)
  have Ra := cells_of (S3.box _ m1)
  have ya := blk_lt (S3.box _ m1)
  (try clear Rb); (try clear yb); (try clear Zb)
  have Rb := cells_of (S3.box _ m0)
  have yb := blk_lt (S3.box _ m0)
  (try simp only at Ra ya Rb yb)
  clear S1 S2
  go_upto_region 2 with (fail)
  generalize hW : w2.alloc _ = w3 at *
  clear hW
  (try clear Ra); (try clear ya); (try clear Za)
  have Ra := cells_of (S3.box _ m1)
  have ya := blk_lt (S3.box _ m1)
  (try clear Rb); (try clear yb); (try clear Zb)
  have Rb := cells_of (S3.box _ m0)
  have yb := blk_lt (S3.box _ m0)
  (try simp only at Ra ya Rb yb)
  go_wp2_with fail
  refine (HSG.out _ _ S3).mono ?_
  rintro r w4 ⟨rfl, S4⟩
  have S5 := S4.alloc (.cells #[.int .i64 8, .bool false, .int .i64 N, .int .i64 0, .int .i64 z, .string ⟨#[]⟩] 38)
  (try clear Ra); (try clear ya); (try clear Za)
  have Ra := cells_of (S4.box _ m1)
  have ya := blk_lt (S4.box _ m1)
  (try clear Rb); (try clear yb); (try clear Zb)
  have Rb := cells_of (S4.box _ m0)
  have yb := blk_lt (S4.box _ m0)
  (try simp only at Ra ya Rb yb)
  clear S3 S4
  go_upto_region 3 with (fail)
  generalize hW : w4.alloc _ = w5 at *
  clear hW
  (try clear Ra); (try clear ya); (try clear Za)
  have Ra := cells_of (S5.box _ m2)
  have ya := blk_lt (S5.box _ m2)
  (try clear Rb); (try clear yb); (try clear Zb)
  have Rb := cells_of (S5.box _ m1)
  have yb := blk_lt (S5.box _ m1)
  (try clear Rc); (try clear yc); (try clear Zc)
  have Rc := cells_of (S5.box _ m0)
  have yc := blk_lt (S5.box _ m0)
  (try simp only at Ra ya Rb yb Rc yc)
  go_wp2_with fail
  refine (HPU.out _ _ S5).mono ?_
  rintro r w6 ⟨rfl, S6⟩
  go_wp2_with fail
  go_ret
  exact ⟨rfl, S6.keep ((List.sublist_cons_self _ _).trans ((List.sublist_cons_self _ _).trans (List.sublist_cons_self _ _)))⟩
set_option maxRecDepth 100000 in
theorem do19_any {w0 w : World} {hp sp gp tp : Nat} {L L' G : List C} {l l' lt : List O} {K : List (Nat × Obj)} (S : SeqAt w0 w hp sp gp tp L G l lt K)
    (nm : ByteArray) (n e : Int) (b : Bool) (HN : ∀ w', Calls Tryz.prog 12 #[.string nm] w' fun r w2 => r = .returned (.tuple #[.int .i64 n, .bool b]) ∧ Chg NoB w' w2)
    (HD : ∀ w' K', StkAt w0 w' [(hp, L)] K' sp l → Calls Tryz.prog 59 #[ptr hp, ptr sp, .int .i64 n] w' fun r w2 => r = .returned (.int .i64 e) ∧ StkAt w0 w2 [(hp, L')] K' sp l') :
    Calls Tryz.prog 34 #[qVal hp sp gp tp, .string nm] w fun r w2 => r = .returned (.int .i64 e) ∧ SeqAt w0 w2 hp sp gp tp L' G l' lt K := by
  have S1 := S.alloc (qBox hp sp gp tp)
  (try clear Ra); (try clear ya); (try clear Za)
  have Ra := cells_of (S1.box _ m0)
  have ya := blk_lt (S1.box _ m0)
  (try simp only at Ra ya)
  have HN := hid' HN
  have HD := hid' HD
  clear S
  go_enter Tryz.func34, Tryz.ntmps34
  go_wp2_with fail
  refine (HN.out _).mono ?_
  rintro r w3 ⟨rfl, X3⟩
  have S3 := S1.pure X3
  (try clear Ra); (try clear ya); (try clear Za)
  have Ra := cells_of (S3.box _ m0)
  have ya := blk_lt (S3.box _ m0)
  (try simp only at Ra ya)
  clear S1 X3
  go_wp2_with fail
  refine (S3.stk (fun K2 S2 => HD.out _ K2 S2)).mono ?_
  rintro r w4 ⟨rfl, S4⟩
  go_wp2_with fail
  go_ret
  exact ⟨rfl, S4.keep (List.sublist_cons_self _ _)⟩
set_option maxRecDepth 100000 in
theorem top19_any {w0 w : World} {hp sp gp tp : Nat} {L G : List C} {l lt : List O} {K : List (Nat × Obj)} (S : SeqAt w0 w hp sp gp tp L G l lt K) (i m : Nat) (o : O) (hm : m + 1 + i = l.length) (ho : l[m]? = some o) (b : ByteArray) (e : Int) (hb : bytesH L o = (b, e)) :
    Calls Tryz.prog 35 #[qVal hp sp gp tp, .int .i64 i] w fun r w2 => r = .returned (.string b) ∧ SeqAt w0 w2 hp sp gp tp L G l lt K := by
  have S1 := S.alloc (qBox hp sp gp tp)
  (try clear Ra); (try clear ya); (try clear Za)
  have Ra := cells_of (S1.box _ m0)
  have ya := blk_lt (S1.box _ m0)
  (try simp only at Ra ya)
  have HP := hid' (fun (w' : World) (K' : List (Nat × Obj)) (S' : SeqAt w0 w' hp sp gp tp L G l lt K') => S'.stk (L' := L) (l' := l) (fun K2 S2 => stk_peek S2 i m o hm ho))
  have HB := hid' (fun (w' : World) (K' : List (Nat × Obj)) (S' : SeqAt w0 w' hp sp gp tp L G l lt K') => S'.stk (L' := L) (l' := l) (r := .tuple #[.string b, .int .i64 e]) (fun K2 S2 => S2.ask (fun K3 A => at_bytes A o hb m0)))
  clear S hb hm ho
  obtain ⟨kk, kx, kn, kp, kl, ks⟩ := o
  go_enter Tryz.func35, Tryz.ntmps35
  go_wp2_with fail
  refine (HP.out _ _ S1).mono ?_
  rintro r w2 ⟨rfl, S2⟩
  have S3 := S2.alloc (Obj.cells #[.int .i64 kk, .bool kx, .int .i64 kn, .int .i64 kp, .int .i64 kl, .string ks] 38)
  (try clear Ra); (try clear ya); (try clear Za)
  have Ra := cells_of (S2.box _ m0)
  have ya := blk_lt (S2.box _ m0)
  (try simp only at Ra ya)
  clear S1 S2
  go_upto_region 2 with (fail)
  generalize hW : w2.alloc _ = w3 at *
  clear hW
  (try clear Ra); (try clear ya); (try clear Za)
  have Ra := cells_of (S3.box _ m1)
  have ya := blk_lt (S3.box _ m1)
  (try clear Rb); (try clear yb); (try clear Zb)
  have Rb := cells_of (S3.box _ m0)
  have yb := blk_lt (S3.box _ m0)
  (try simp only at Ra ya Rb yb)
  go_wp2_with fail
  refine (HB.out _ _ S3).mono ?_
  rintro r w4 ⟨rfl, S4⟩
  go_wp2_with fail
  go_ret
  exact ⟨rfl, S4.keep ((List.sublist_cons_self _ _).trans (List.sublist_cons_self _ _))⟩
end Go.Proofs.YteglbjcdlekbpaaGreat
