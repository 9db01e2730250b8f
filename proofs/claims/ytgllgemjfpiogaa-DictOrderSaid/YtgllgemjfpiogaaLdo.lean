/- Walk: tympanlaw12.DictOrder. -/
import Derived.Test.YtgllgemjfpiogaaDy
import Derived.Test.YtgllgemjfpiogaaDd
import Derived.Test.YtgllgemjfpiogaaDo
import Derived.Test.YtgllgemjfpiogaaRow
namespace Go.Proofs.Ytgllgemjfpiogaa
open Go.RowKit

theorem infoInt : (Try.prog.info? 3).map (fun i => (i.zero, i.size, i.bytes)) = some (some (.int .i64 0), 1, 8) := by kernel_rfl
theorem underInts : Try.prog.underlying 53 = some (.slice 3) := by kernel_rfl
def intsV (l : List Nat) : List Value := l.map fun (x : Nat) => Value.int .i64 (x : Int)
theorem intsV_push (l : List Nat) (x : Nat) : intsV (l ++ [x]) = intsV l ++ [.int .i64 (x : Int)] := by simp [intsV]
theorem key_fix (L : List C) (v : Int) (h : -1073741823 ≤ v) (h' : v ≤ 1073741823) : keyD L (fixO v) = (fixO v, 0) := by
  have hm : mayH L (fixO v) = true := by
    simp [mayH, held, mayO, eqO, bareO, O.nil]
    omega
  unfold keyD
  rw [hm]
  simp [unO]
theorem dic_one (X : List (O × O)) (k : Nat) (h : X.length ≤ k) (hk : k ≤ 1000) : DicAt [dcell X k] 0 (dcell X k) :=
  ⟨rfl, rfl, rfl, rfl, by rw [dItems_length X k h]; omega, by omega⟩
def fin (o t k : Nat) : List Nat := lef o k ++ if t = o then [o] else []
theorem fin_length (o t k : Nat) (ho : o < k) : (fin o t k).length ≤ k ∧ k - 1 ≤ (fin o t k).length := by
  have := lef_length o k ho
  unfold fin
  split <;> simp <;> omega
theorem fin_set (o t k : Nat) (hk : k < 1000) (ho : o < k) (ht : t < k) : ∃ r b, PlaceS ((lef o k).map prF) (numO t) r b ∧
    ((b = true ∧ ∃ kk u, ((lef o k).map prF)[r]? = some (kk, u) ∧ ((lef o k).map prF).set r (kk, nullO) = (fin o t k).map (prG t)) ∨ (b = false ∧ ((lef o k).map prF).length < k ∧ (lef o k).map prF ++ [(numO t, nullO)] = (fin o t k).map (prG t))) := by
  by_cases e : t = o
  · subst e
    refine ⟨0, false, place_out t k hk ho, .inr ⟨rfl, by rw [List.length_map, lef_length t k ho]; omega, ?_⟩⟩
    rw [map_same t (lef t k) (fun h => ((lef_mem t k t).1 h).2 rfl)]
    simp [fin, prG]
  · obtain ⟨r, h1, h2, h3⟩ := place_set o t k hk ht e
    refine ⟨r, true, h1, .inl ⟨rfl, _, _, h2, ?_⟩⟩
    simp only [fin, if_neg e, List.append_nil]
    exact h3

theorem fin_item (F : List Nat) (t k x y : Nat) (hF : F.length ≤ k) (hx : F[x]? = some y) :
    (dItems (F.map (prG t)) k)[2 * x + 1]? = some (numO y) ∧ (dItems (F.map (prG t)) k)[2 * x + 2]? = some (if y = t then nullO else numO (100 + (y : Int))) := by
  have hl := (List.getElem?_eq_some_iff.1 hx).1
  have hm : (F.map (prG t))[x]? = some (prG t y) := by simp [hx]
  refine ⟨?_, ?_⟩
  · rw [dItems_at _ k (by simpa using hF) _ (by omega), if_neg (by omega), show (2 * x + 1 - 1) / 2 = x by omega, hm]
    have : (2 * x + 1) % 2 = 1 := by omega
    simp [this, prG]
  · rw [dItems_at _ k (by simpa using hF) _ (by omega), if_neg (by omega), show (2 * x + 2 - 1) / 2 = x by omega, hm]
    have : ¬ (2 * x + 2) % 2 = 1 := by omega
    simp [this, prG]

set_option maxRecDepth 100000 in
set_option maxHeartbeats 8000000 in
theorem dictOrder_any (a0 a1 a2 : Int) (l0 : 0 ≤ a0) (u0 : a0 < 256) (l1 : 0 ≤ a1) (u1 : a1 < 256) (l2 : 0 ≤ a2) (u2 : a2 < 256) (w : World) :
   Calls Try.prog 7 #[.int .u8 a0, .int .u8 a1, .int .u8 a2] w fun e w' => e = .returned (.bool true) ∧ Chg NoB w w' := by
  obtain ⟨k, hk⟩ : ∃ k : Nat, 2 + a0 % 20 = (k : Int) := ⟨(2 + a0 % 20).toNat, by omega⟩
  have k2 : 2 ≤ k := by omega
  have k21 : k ≤ 21 := by omega
  have b1 : 0 ≤ a1 % (k : Int) := Int.emod_nonneg _ (by omega)
  have b2 : a1 % (k : Int) < k := Int.emod_lt_of_pos _ (by omega)
  have b3 : 0 ≤ a2 % (k : Int) := Int.emod_nonneg _ (by omega)
  have b4 : a2 % (k : Int) < k := Int.emod_lt_of_pos _ (by omega)
  obtain ⟨o, ho⟩ : ∃ o : Nat, a1 % (k : Int) = (o : Int) := ⟨(a1 % (k : Int)).toNat, by omega⟩
  obtain ⟨t, ht⟩ : ∃ t : Nat, a2 % (k : Int) = (t : Int) := ⟨(a2 % (k : Int)).toNat, by omega⟩
  have ok : o < k := by omega
  have tk : t < k := by omega
  have ho' : a1.tmod (k : Int) = (o : Int) := by rw [Int.tmod_eq_emod_of_nonneg l1]; exact ho
  have ht' : a2.tmod (k : Int) = (t : Int) := by rw [Int.tmod_eq_emod_of_nonneg l2]; exact ht
  clear b1 b2 b3 b4
  have S1 : dictH [] (k : Int) = ([dcell [] k], dicO 0, 0) := dict_new [] k (by simp) (by omega) (by simp [used]; omega)
  have nk : ¬ (k : Int) = 0 := by omega
  have ki : (k : Int) ≤ 21 := by omega
  have ki2 : 2 ≤ (k : Int) := by omega
  have oi : (o : Int) < k := by omega
  have ti : (t : Int) < k := by omega
  obtain ⟨i5, hi5, hz50, hz51, hz52⟩ := info_parts infoInt
  go_enter Try.func7, Try.ntmps7
  go_wp2_with fail
  refine (known12_any w).mono ?_
  rintro e w0 ⟨rfl, X0⟩
  go_wp2_with fail
  refine (at_hnew (Ats.start X0)).mono ?_
  rintro e w1 ⟨hp, rfl, A0⟩
  go_wp2_with fail
  refine (at_dnew A0 _ S1).mono ?_
  rintro e w2 ⟨rfl, A1⟩
  have A2 := A1.alloc (.cells #[.int .i64 10, .bool false, .int .i64 0, .int .i64 0, .int .i64 0, .string ⟨#[]⟩] 28)
  clear A0 A1 S1
  go_wp2_with fail
  generalize w2.alloc (.cells #[.int .i64 10, .bool false, .int .i64 0, .int .i64 0, .int .i64 0, .string ⟨#[]⟩] 28) = w3 at *
  generalize w2.heap.size = b9 at *
  go_loopw [11] (fun c wr => ∃ j : Nat, j ≤ k ∧ c = .int .i64 j ∧ Ats w wr [(hp, [dcell (pr j) k])] [(b9, .cells #[.int .i64 10, .bool false, .int .i64 0, .int .i64 0, .int .i64 0, .string ⟨#[]⟩] 28)]) (fun c _ => k - (intOf c).toNat)
  case atStart => exact ⟨0, Nat.zero_le _, rfl, A2⟩
  case round =>
    obtain ⟨j, hj, rfl, A3⟩ := hrel
    have R9 := cells_of (A3.box _ (List.mem_cons_self ..))
    clear A2
    by_cases hlt : j < k
    · have hlt' : (j : Int) < k := by omega
      have hs := at_dset A3 0 (pr j) k (dic_one _ _ (by rw [pr_length]; exact hj) (by omega)) (by rw [pr_length]; exact hj) (by omega) (by rw [pr_length]; omega) (numO j) (numO (100 + (j : Int))) (key_num _ _ (by omega) (by omega)) (may_num _ _ (by omega) (by omega)) (may_num _ _ (by omega) (by omega)) 0 false (place_next j (by omega))
        (L' := [dcell (pr (j + 1)) k]) (e := 0) (.inr (.inl ⟨rfl, by rw [pr_length]; exact hlt, rfl, by rw [pr_succ]; rfl⟩))
      go_wp2_with fail
      refine hs.mono ?_
      rintro e w4 ⟨rfl, A4⟩
      clear hs R9 A3
      go_wp2_with fail
      go_roundw
      case rel => exact ⟨j + 1, by omega, by go_num, A4⟩
      case measure => simp [intOf]; omega
    obtain rfl : j = k := by omega
    go_wp2_with fail
    go_quiet (fail)
    have A4 := A3.pure ((Chg.refl NoB wr).drewN nq)
    generalize wr.drewN nq = w4 at *
    clear R9 A3
    have R9 := cells_of (A4.box _ (List.mem_cons_self ..))
    have hs := at_dset A4 0 (pr j) j (dic_one _ _ (by rw [pr_length]; exact hj) (by omega)) (by rw [pr_length]; exact hj) (by omega) (by rw [pr_length]; omega) (numO (-1)) nullO (key_num _ _ (by omega) (by omega)) (may_null _) (may_num _ _ (by omega) (by omega)) 0 false (place_minus j (by omega))
      (e := 20) (.inr (.inr ⟨rfl, by rw [pr_length], rfl, rfl⟩))
    go_wp2_with fail
    refine hs.mono ?_
    rintro e w5 ⟨rfl, A5⟩
    clear hs R9 A4
    have R9 := cells_of (A5.box _ (List.mem_cons_self ..))
    have hd := at_ddrop A5 0 (pr j) j (dic_one _ _ (by rw [pr_length]; exact hj) (by omega)) (by rw [pr_length]; exact hj) (by omega) (by rw [pr_length]; omega) (fixO ((o : Int) * 65536)) (key_fix _ _ (by omega) (by omega)) o (place_fix j o (by omega) ok) (fun p hp => by
      obtain ⟨i, hi, e⟩ := List.getElem_of_mem hp
      obtain ⟨hi', rfl⟩ := pr_at j i p (by rw [List.getElem?_eq_getElem hi, e])
      exact ⟨may_num _ _ (by omega) (by omega), may_num _ _ (by omega) (by omega)⟩)
    rw [pr_erase o j ok] at hd
    go_wp2_with fail
    refine hd.mono ?_
    rintro e w6 ⟨rfl, A6⟩
    clear hd R9 A5
    change Ats w w6 [(hp, [dcell ((lef o j).map prF) j])] _ at A6
    have R9 := cells_of (A6.box _ (List.mem_cons_self ..))
    have ll : ((lef o j).map prF).length = j - 1 := by rw [List.length_map, lef_length o j ok]
    obtain ⟨r, b, hP, hQ⟩ := fin_set o t j (by omega) ok tk
    have hs := at_dset A6 0 ((lef o j).map prF) j (dic_one _ _ (by omega) (by omega)) (by omega) (by omega) (by omega) (numO t) nullO (key_num _ _ (by omega) (by omega)) (may_null _) (may_num _ _ (by omega) (by omega)) r b hP
      (L' := [dcell ((fin o t j).map (prG t)) j]) (e := 0) (by
        rcases hQ with ⟨hb, kk, u, h1, h2⟩ | ⟨hb, h1, h2⟩
        · exact .inl ⟨hb, rfl, kk, u, h1, by rw [h2]; rfl⟩
        · exact .inr (.inl ⟨hb, h1, rfl, by rw [h2]; rfl⟩))
    clear hP hQ
    go_wp2_with fail
    refine hs.mono ?_
    rintro e w7 ⟨rfl, A7⟩
    clear hs R9 A6
    have R9 := cells_of (A7.box _ (List.mem_cons_self ..))
    have fl := fin_length o t j ok
    have hpp := at_dpairs A7 (List.mem_cons_self ..) 0 ((fin o t j).map (prG t)) j (dic_one _ _ (by rw [List.length_map]; omega) (by omega)) (by rw [List.length_map]; omega) (by omega) (by rw [List.length_map]; omega)
    rw [List.length_map] at hpp
    go_wp2_with fail
    refine hpp.mono ?_
    rintro e w8 ⟨g, cur, fz, rfl, A8, RL⟩
    clear hpp R9 A7
    go_wp2_with fail
    generalize hL8 : [dcell ((fin o t j).map (prG t)) j] = L8 at *
    have HRL := Hid.mk' RL
    clear RL hL8
    go_loopw [19, 20] (fun v c wr => ∃ i : Nat, i ≤ j ∧ c = .int .i64 i ∧ ∃ R, RowG 3 1 R v (lef o i).length (intsV (lef o i)) ∧ Ats w wr [(hp, L8)] (R ++ [(g, .cells cur 28 fz), (b9, .cells #[.int .i64 10, .bool false, .int .i64 0, .int .i64 0, .int .i64 0, .string ⟨#[]⟩] 28)])) (fun _ c _ => j - (intOf c).toNat)
    case atStart => exact ⟨0, Nat.zero_le _, rfl, [], .inl ⟨rfl, rfl, rfl, rfl⟩, A8⟩
    case round =>
      obtain ⟨i, hi, rfl, R, hR, A9⟩ := hrel
      clear A8
      have lefl : (lef o i).length ≤ 21 := by
        have := List.length_filter_le (fun x => decide (x ≠ o)) (List.range i)
        simp only [List.length_range] at this
        exact Nat.le_trans this (by omega)
      by_cases hlt : i < j
      · have hlt' : (i : Int) < j := by omega
        by_cases hio : i = o
        · have e1 : ((i : Int) != (o : Int)) = false := by simp; omega
          have e2 : ((i : Int) == (o : Int)) = true := by simp; omega
          go_wp2_with fail
          go_roundw
          case rel => exact ⟨i + 1, by omega, by go_num, R, by rw [lef_succ, if_pos hio]; exact hR, A9⟩
          case measure => simp [intOf]; omega
        · have e1 : ((i : Int) != (o : Int)) = true := by simp; omega
          have e2 : ((i : Int) == (o : Int)) = false := by simp; omega
          clear hio
          go_wp2_with (at_builtin; refine wpList_append_own_at _ rfl (.tmp 91) (.tmp 93) 53 rfl w.heap.size 3 i5 (.int .i64 0) 1 8 underInts hi5 hz50 hz51 hz52 rfl (by decide) u19 (lef o i).length (intsV (lef o i)) rfl (Ats.ownsG (A9.pure ((Chg.refl NoB wr).alloc _)) hR) _ 1 1 [.int .i64 (i : Int)] rfl rfl (cell_one_new _ _ _) (fun z hz => by simp at hz; subst hz; rfl) ?_ ?_ ?_ ?_; (unfold maxLen; omega); omega; (simp; have := A9.chg.size; omega); intro v5 w5 hown5 hgr5 _ hob5; have HG := Hid.mk' (Ats.grownG (A9.pure ((Chg.refl NoB wr).alloc _)) hR hown5 hgr5 hob5 (by decide)); clear hown5 hgr5 hob5)
          obtain ⟨R', hR', A10⟩ := HG.out
          go_roundw
          case rel =>
            refine ⟨i + 1, by omega, by go_num, R', ?_, A10⟩
            have hne : ¬ i = o := fun e => by subst e; simp at e2
            rw [lef_succ, if_neg hne, intsV_push, List.length_append]
            exact hR'
          case measure => simp [intOf]; omega
      · obtain rfl : i = j := by omega
        have fl2 : (lef o i).length + 1 = i := by have := lef_length o i ok; omega
        have HF2 := Hid.mk' fl2
        clear fl2
        have HFE : fin o t i = if t = o then lef o i ++ [o] else lef o i := by unfold fin; split <;> simp
        obtain ⟨m, hm⟩ : ∃ m, (lef o i).length = m := ⟨_, rfl⟩
        rw [hm] at hR lefl HF2
        by_cases hto : t = o
        · have e1 : ((t : Int) == (o : Int)) = true := by simp; omega
          rw [if_pos hto] at HFE
          have flen : (fin o t i).length = m + 1 := by rw [HFE]; simp [hm]
          have HFH := Hid.mk' HFE
          have HMH := Hid.mk' hm
          clear HFE hm hto fl
          have c1 : ((2 * (m + 1) : Nat) : Int) = 2 * ((m : Int) + 1) := by omega
          have c2 : ((m + 1 : Nat) : Int) = (m : Int) + 1 := by omega
          go_wp2_with (at_builtin; refine wpList_append_own_at _ rfl (.tmp 98) (.tmp 100) 53 rfl w.heap.size 3 i5 (.int .i64 0) 1 8 underInts hi5 hz50 hz51 hz52 rfl (by decide) u19 m (intsV (lef o i)) rfl (Ats.ownsG (A9.pure ((Chg.refl NoB wr).alloc _)) hR) _ 1 1 [.int .i64 (o : Int)] rfl rfl (cell_one_new _ _ _) (fun z hz => by simp at hz; subst hz; rfl) ?_ ?_ ?_ ?_; (unfold maxLen; omega); omega; (simp; have := A9.chg.size; omega); intro v5 w5 hown5 hgr5 _ hob5; obtain ⟨R', hR', A10⟩ := Ats.grownG (A9.pure ((Chg.refl NoB wr).alloc _)) hR hown5 hgr5 hob5 (by decide); obtain ⟨g2, cap2, cur2, rfl, rfl, hcur⟩ := hR'.shape (by omega); clear hown5 hgr5 hob5 hR' hR A9; have HCU := Hid.mk' hcur; clear hcur)
          have YW := A10.chg
          have Bg := A10.box (g, .cells cur 28 fz) (List.mem_cons_of_mem _ (List.mem_cons_self ..))
          have B2 := A10.box (g2, .cells cur2 3) (List.mem_cons_self ..)
          have vg := blk_lt Bg
          have v2 := blk_lt B2
          simp only at vg v2
          have finl : (fin o t i).length ≤ i := (fin_length o t i ok).1
          clear A10
          go_loopw [21] (fun c ww => ∃ x : Nat, x ≤ (m + 1) ∧ c = .int .i64 x ∧ Chg NoB w5 ww) (fun c _ => (m + 1) - (intOf c).toNat)
          case atStart => exact ⟨0, Nat.zero_le _, rfl, Chg.refl _ _⟩
          case round =>
            obtain ⟨x, hx, rfl, X⟩ := hrel
            by_cases hlt3 : x < (m + 1)
            · have hlt3' : (x : Int) < (m : Int) + 1 := by omega
              obtain ⟨y, hy⟩ : ∃ y, (fin o t i)[x]? = some y := ⟨(fin o t i)[x]'(by omega), by simp⟩
              have hyi : y < i := by
                have hmem := List.mem_of_getElem? hy
                rw [HFH.out] at hmem
                rcases List.mem_append.1 hmem with h | h
                · exact ((lef_mem o i y).1 h).1
                · simp at h; omega
              obtain ⟨q1, q2⟩ := fin_item (fin o t i) t i x y finl hy
              obtain ⟨y0, y1, y2, y3, y4, y5⟩ := row_item HRL.out q1
              obtain ⟨z0, z1, z2, z3, z4, z5⟩ := row_item HRL.out q2
              have ky : cur2[x]? = some (.int .i64 (y : Int)) := by
                rw [HCU.out x (by omega)]
                have := hy
                rw [HFH.out] at this
                rw [← intsV_push]; unfold intsV; rw [List.getElem?_map, this]; rfl
              clear q1 q2 hy
              have q3 : 6 + 2 * x * 6 = (2 * x + 1) * 6 := by omega
              have q4 : 6 + (2 * x + 1) * 6 = (2 * x + 2) * 6 := by omega
              have s1 : eqO ⟨3, false, (y : Int), 0, 0, ⟨#[]⟩⟩ ⟨3, false, (y : Int), 0, 0, ⟨#[]⟩⟩ = true := eqO_self _
              have s2 : eqO ⟨3, false, 100 + (y : Int), 0, 0, ⟨#[]⟩⟩ ⟨3, false, 100 + (y : Int), 0, 0, ⟨#[]⟩⟩ = true := eqO_self _
              have s3 : eqO ⟨1, false, 0, 0, 0, ⟨#[]⟩⟩ ⟨1, false, 0, 0, 0, ⟨#[]⟩⟩ = true := eqO_self _
              have q5 : 2 * x < 2 * (m + 1) := by omega
              have q6 : 2 * x + 1 < 2 * (m + 1) := by omega
              have q7 : (2 * (x : Int) + 1).toNat = 2 * x + 1 := by omega
              have q8 : (2 * (x : Int)).toNat = 2 * x := by omega
              have R2 := cells_of (X.blk B2 id)
              have Rg := cells_of (X.blk Bg id)
              have vg' := blk_lt (X.blk Bg id)
              have v2' := blk_lt (X.blk B2 id)
              by_cases hyt : y = t
              · have d1 : ((y : Int) == (t : Int)) = true := by simp; omega
                simp only [if_pos hyt, nullO, numO] at y0 y1 y2 y3 y4 y5 z0 z1 z2 z3 z4 z5
                clear hyt
                go_wp2_with fail
                have Rg' := cells_of (blk_alloc (X.blk Bg id) (.cells #[.int .i64 1, .bool false, .int .i64 0, .int .i64 0, .int .i64 0, .string ⟨#[]⟩] 28))
                have R2' := cells_of (blk_alloc (X.blk B2 id) (.cells #[.int .i64 1, .bool false, .int .i64 0, .int .i64 0, .int .i64 0, .string ⟨#[]⟩] 28))
                have Rn := cells_of (blk_new wr (.cells #[.int .i64 1, .bool false, .int .i64 0, .int .i64 0, .int .i64 0, .string ⟨#[]⟩] 28))
                have X' := X.alloc (.cells #[.int .i64 1, .bool false, .int .i64 0, .int .i64 0, .int .i64 0, .string ⟨#[]⟩] 28)
                clear R2 Rg vg' v2' X
                generalize wr.alloc (.cells #[.int .i64 1, .bool false, .int .i64 0, .int .i64 0, .int .i64 0, .string ⟨#[]⟩] 28) = wv at *
                generalize wr.heap.size = bv at *
                go_quiet (fail)
                go_wp2_with fail
                go_roundw
                case rel => exact ⟨x + 1, by omega, by go_num, X'.drewN _⟩
                case measure => simp [intOf]; omega
              · have d1 : ((y : Int) == (t : Int)) = false := by simp; omega
                simp only [if_neg hyt, numO] at y0 y1 y2 y3 y4 y5 z0 z1 z2 z3 z4 z5
                clear hyt
                go_wp2_with fail
                have Rg' := cells_of (blk_alloc (X.blk Bg id) (.cells #[.int .i64 3, .bool false, .int .i64 (100 + (y : Int)), .int .i64 0, .int .i64 0, .string ⟨#[]⟩] 28))
                have R2' := cells_of (blk_alloc (X.blk B2 id) (.cells #[.int .i64 3, .bool false, .int .i64 (100 + (y : Int)), .int .i64 0, .int .i64 0, .string ⟨#[]⟩] 28))
                have Rn := cells_of (blk_new wr (.cells #[.int .i64 3, .bool false, .int .i64 (100 + (y : Int)), .int .i64 0, .int .i64 0, .string ⟨#[]⟩] 28))
                have X' := X.alloc (.cells #[.int .i64 3, .bool false, .int .i64 (100 + (y : Int)), .int .i64 0, .int .i64 0, .string ⟨#[]⟩] 28)
                clear R2 Rg vg' v2' X
                generalize wr.alloc (.cells #[.int .i64 3, .bool false, .int .i64 (100 + (y : Int)), .int .i64 0, .int .i64 0, .string ⟨#[]⟩] 28) = wv at *
                generalize wr.heap.size = bv at *
                go_quiet (fail)
                go_wp2_with fail
                go_roundw
                case rel => exact ⟨x + 1, by omega, by go_num, X'.drewN _⟩
                case measure => simp [intOf]; omega
            · obtain rfl : x = (m + 1) := by omega
              go_wp2
              go_ret
              exact ⟨by simp, YW.trans X⟩
        · have e1 : ((t : Int) == (o : Int)) = false := by simp; omega
          rw [if_neg hto] at HFE
          have flen : (fin o t i).length = m := by rw [HFE]; exact hm
          obtain ⟨g2, cap2, cur2, rfl, rfl, hcur⟩ := hR.shape (by omega)
          have HFH := Hid.mk' HFE
          have HMH := Hid.mk' hm
          have HCU := Hid.mk' hcur
          clear HFE hm hto hcur hR fl
          have c1 : ((2 * m : Nat) : Int) = 2 * (m : Int) := by omega
          have A10 := A9
          clear A9
          go_wp2_with fail
          simp only [flen]
          have YW := A10.chg
          have Bg := A10.box (g, .cells cur 28 fz) (List.mem_cons_of_mem _ (List.mem_cons_self ..))
          have B2 := A10.box (g2, .cells cur2 3) (List.mem_cons_self ..)
          have vg := blk_lt Bg
          have v2 := blk_lt B2
          simp only at vg v2
          have finl : (fin o t i).length ≤ i := (fin_length o t i ok).1
          clear A10
          go_loopw [21] (fun c wq => ∃ x : Nat, x ≤ m ∧ c = .int .i64 x ∧ Chg NoB wr wq) (fun c _ => m - (intOf c).toNat)
          case atStart => exact ⟨0, Nat.zero_le _, rfl, Chg.refl _ _⟩
          case round =>
            obtain ⟨x, hx, rfl, X⟩ := hrel
            by_cases hlt3 : x < m
            · have hlt3' : (x : Int) < (m : Int) := by omega
              obtain ⟨y, hy⟩ : ∃ y, (fin o t i)[x]? = some y := ⟨(fin o t i)[x]'(by omega), by simp⟩
              have hyi : y < i := by
                have hmem := List.mem_of_getElem? hy
                rw [HFH.out] at hmem
                exact ((lef_mem o i y).1 hmem).1
              obtain ⟨q1, q2⟩ := fin_item (fin o t i) t i x y finl hy
              obtain ⟨y0, y1, y2, y3, y4, y5⟩ := row_item HRL.out q1
              obtain ⟨z0, z1, z2, z3, z4, z5⟩ := row_item HRL.out q2
              have ky : cur2[x]? = some (.int .i64 (y : Int)) := by
                rw [HCU.out x (by omega)]
                have := hy
                rw [HFH.out] at this
                unfold intsV; rw [List.getElem?_map, this]; rfl
              clear q1 q2 hy
              have q3 : 6 + 2 * x * 6 = (2 * x + 1) * 6 := by omega
              have q4 : 6 + (2 * x + 1) * 6 = (2 * x + 2) * 6 := by omega
              have s1 : eqO ⟨3, false, (y : Int), 0, 0, ⟨#[]⟩⟩ ⟨3, false, (y : Int), 0, 0, ⟨#[]⟩⟩ = true := eqO_self _
              have s2 : eqO ⟨3, false, 100 + (y : Int), 0, 0, ⟨#[]⟩⟩ ⟨3, false, 100 + (y : Int), 0, 0, ⟨#[]⟩⟩ = true := eqO_self _
              have s3 : eqO ⟨1, false, 0, 0, 0, ⟨#[]⟩⟩ ⟨1, false, 0, 0, 0, ⟨#[]⟩⟩ = true := eqO_self _
              have q5 : 2 * x < 2 * m := by omega
              have q6 : 2 * x + 1 < 2 * m := by omega
              have q7 : (2 * (x : Int) + 1).toNat = 2 * x + 1 := by omega
              have q8 : (2 * (x : Int)).toNat = 2 * x := by omega
              have R2 := cells_of (X.blk B2 id)
              have Rg := cells_of (X.blk Bg id)
              have vg' := blk_lt (X.blk Bg id)
              have v2' := blk_lt (X.blk B2 id)
              by_cases hyt : y = t
              · have d1 : ((y : Int) == (t : Int)) = true := by simp; omega
                simp only [if_pos hyt, nullO, numO] at y0 y1 y2 y3 y4 y5 z0 z1 z2 z3 z4 z5
                clear hyt
                go_wp2_with fail
                have Rg' := cells_of (blk_alloc (X.blk Bg id) (.cells #[.int .i64 1, .bool false, .int .i64 0, .int .i64 0, .int .i64 0, .string ⟨#[]⟩] 28))
                have R2' := cells_of (blk_alloc (X.blk B2 id) (.cells #[.int .i64 1, .bool false, .int .i64 0, .int .i64 0, .int .i64 0, .string ⟨#[]⟩] 28))
                have Rn := cells_of (blk_new wr (.cells #[.int .i64 1, .bool false, .int .i64 0, .int .i64 0, .int .i64 0, .string ⟨#[]⟩] 28))
                have X' := X.alloc (.cells #[.int .i64 1, .bool false, .int .i64 0, .int .i64 0, .int .i64 0, .string ⟨#[]⟩] 28)
                clear R2 Rg vg' v2' X
                generalize wr.alloc (.cells #[.int .i64 1, .bool false, .int .i64 0, .int .i64 0, .int .i64 0, .string ⟨#[]⟩] 28) = wv at *
                generalize wr.heap.size = bv at *
                go_quiet (fail)
                go_wp2_with fail
                go_roundw
                case rel => exact ⟨x + 1, by omega, by go_num, X'.drewN _⟩
                case measure => simp [intOf]; omega
              · have d1 : ((y : Int) == (t : Int)) = false := by simp; omega
                simp only [if_neg hyt, numO] at y0 y1 y2 y3 y4 y5 z0 z1 z2 z3 z4 z5
                clear hyt
                go_wp2_with fail
                have Rg' := cells_of (blk_alloc (X.blk Bg id) (.cells #[.int .i64 3, .bool false, .int .i64 (100 + (y : Int)), .int .i64 0, .int .i64 0, .string ⟨#[]⟩] 28))
                have R2' := cells_of (blk_alloc (X.blk B2 id) (.cells #[.int .i64 3, .bool false, .int .i64 (100 + (y : Int)), .int .i64 0, .int .i64 0, .string ⟨#[]⟩] 28))
                have Rn := cells_of (blk_new wr (.cells #[.int .i64 3, .bool false, .int .i64 (100 + (y : Int)), .int .i64 0, .int .i64 0, .string ⟨#[]⟩] 28))
                have X' := X.alloc (.cells #[.int .i64 3, .bool false, .int .i64 (100 + (y : Int)), .int .i64 0, .int .i64 0, .string ⟨#[]⟩] 28)
                clear R2 Rg vg' v2' X
                generalize wr.alloc (.cells #[.int .i64 3, .bool false, .int .i64 (100 + (y : Int)), .int .i64 0, .int .i64 0, .string ⟨#[]⟩] 28) = wv at *
                generalize wr.heap.size = bv at *
                go_quiet (fail)
                go_wp2_with fail
                go_roundw
                case rel => exact ⟨x + 1, by omega, by go_num, X'.drewN _⟩
                case measure => simp [intOf]; omega
            · obtain rfl : x = m := by omega
              go_wp2
              go_ret
              exact ⟨by simp, YW.trans X⟩
end Go.Proofs.Ytgllgemjfpiogaa
