/- Walk: tympanlaw21.ConvBases. -/
import Derived.Test.YthelgahojgdehaaZConvd
namespace Go.Proofs.Ythelgahojgdehaa
open Go.RowKit

theorem digB_size (b n : Nat) : (⟨(digB b n).toArray⟩ : ByteArray).size = (digB b n).length := by simp [ByteArray.size]
theorem based_text (b n : Nat) (hb : 2 ≤ b) (hb2 : b ≤ 36) (hn : n < 2147483648) : readF (dig2B b ++ (⟨#[35]⟩ : ByteArray) ++ (⟨(digB b n).toArray⟩ : ByteArray)).toList = (1, (n : Int), 0) := by
  rw [app_lst, app_lst, arr_lst, one_lst]
  unfold dig2B
  rw [arr_lst, List.append_assoc]
  exact based_ok b hb hb2 n hn
theorem dig2_len (b : Nat) (hb : 2 ≤ b) (hb2 : b ≤ 36) : (dig2B b).size ≤ 2 := by
  have := (dig2_ok ⟨b, by omega⟩ hb).2.2.1
  simpa [dig2B, ByteArray.size] using this
set_option maxRecDepth 100000 in
set_option maxHeartbeats 4000000 in
theorem convBases_nat (v base : Int) (v0 : 0 ≤ v) (v1 : v < 4294967296) (b0 : 0 ≤ base) (b1 : base < 256) (n b : Nat) (hn : v % 2147483648 = n) (hb : 2 + base % 35 = b) (w : World) :
    Calls Try.prog 4 #[.int .u32 v, .int .u8 base] w fun e w' => e = .returned (.bool true) ∧ Chg NoB w w' := by
  have n1 : n < 2147483648 := by omega
  have c1 : 2 ≤ b := by omega
  have c2 : b ≤ 36 := by omega
  have hlen : (digB b n).length ≤ 31 := digB_len b n c1 30 (by omega)
  have MN := mayI n (by omega) (by omega)
  have MB := mayI b (by omega) (by omega)
  obtain ⟨T, hT⟩ : ∃ T : ByteArray, T = ⟨(digB b n).toArray⟩ := ⟨_, rfl⟩
  have hTs : T.size = (digB b n).length := by rw [hT]; exact digB_size b n
  have hTl : T.toList = digB b n := by rw [hT]; exact arr_lst _
  obtain ⟨U, hU⟩ : ∃ U : ByteArray, U = dig2B b ++ (⟨#[35]⟩ : ByteArray) ++ T := ⟨_, rfl⟩
  have hUr : readF U.toList = (1, (n : Int), 0) := by rw [hU, hT]; exact based_text b n c1 c2 n1
  have hUs : U.size ≤ 34 := by
    rw [hU, ByteArray.size_append, ByteArray.size_append]
    have := dig2_len b c1 c2
    have : (⟨#[35]⟩ : ByteArray).size = 1 := rfl
    omega
  obtain ⟨L2, hL2⟩ : ∃ L2 : List C, L2 = [txt (digB b n ++ (zeroL 40).drop (digB b n).length)] := ⟨_, rfl⟩
  have hz40 : (zeroL 40).length = 40 := by simp [zeroL]
  have HRS := hid' (fun (hp sp : Nat) (w' : World) (K' : List (Nat × Obj)) (S' : StkAt w w' [(hp, [txt (zeroL 40)])] K' sp ([] ++ [iO n, iO b, strN 0 false 0 40])) =>
    cvrs_any (N := 0) (bs := zeroL 40) (l := []) (n := n) (b := b) (L := [txt (zeroL 40)]) (M := []) (by rw [hz40]; exact S') c1 c2 n1 rfl (by decide) (by rw [hz40]; decide) (by rw [hz40]; decide))
  have e2 : ([txt (zeroL 40)] : List C).set 0 (txt (digB b n ++ (zeroL 40).drop (digB b n).length)) = L2 := by rw [hL2]; rfl
  rw [e2, ← hTs] at HRS
  have hB2 : bytesH L2 (strN 0 false 0 T.size) = (T, 0) := by
    have hc : L2[0]? = some (txt (digB b n ++ (zeroL 40).drop (digB b n).length)) := by rw [hL2]; rfl
    have hl : (digB b n ++ (zeroL 40).drop (digB b n).length).length = 40 := by simp [zeroL]; omega
    have := bytes_s hc (by decide) (by rw [hl]; decide) false 0 T.size (by decide) (by omega) (by rw [hl]; omega)
    refine (show bytesH L2 (strN 0 false 0 T.size) = _ from this).trans ?_
    rw [Int.toNat_zero, List.drop_zero, Int.toNat_natCast, hTs, List.take_left, ← hT]
  have HTZ := hid' (fun (hp sp : Nat) (w' : World) (K' : List (Nat × Obj)) (S' : StkAt w w' [(hp, [])] K' sp [iO n, iO b]) => text21_any S' ⟨(zeroL 40).toArray⟩ (by simp) (by rw [zero_size]; simp [used]) (by simp))
  have hu2 : used L2 ≤ 40 := by rw [hL2]; simp [used, C.size, zeroL]; omega
  have hl2 : L2.length = 1 := by rw [hL2]; rfl
  have HTU := hid' (fun (hp sp : Nat) (w' : World) (K' : List (Nat × Obj)) (S' : StkAt w w' [(hp, L2)] K' sp []) => text21_any S' U (by omega) (by omega) (by simp))
  rw [hl2] at HTU
  have hc3 : (L2 ++ [txt U.toList])[1]? = some (txt U.toList) := by rw [hL2]; rfl
  have HNUM := hid' (fun (hp : Nat) (w' : World) (K' : List (Nat × Obj)) (A : Ats w w' [(hp, L2 ++ [txt U.toList])] K') => at_numT A m0 (strN 1 false 0 U.size) rfl U (bytes_whole (N := 1) hc3 (by decide) (by omega) false) (by omega) (1, (n : Int), 0) hUr)
  have HWH := hid' (fun (hp : Nat) (w' : World) (K' : List (Nat × Obj)) (A : Ats w w' [(hp, L2 ++ [txt U.toList])] K') => at_whole A (strN 1 false 0 U.size) (iO n) (HNUM.out hp) (fun h => by simp at h))
  have HCI := hid' (fun (hp sp : Nat) (w' : World) (K' : List (Nat × Obj)) (S' : StkAt w w' [(hp, L2 ++ [txt U.toList])] K' sp ([] ++ [strN 1 false 0 U.size])) =>
    conv_cvi (o := strN 1 false 0 U.size) S' m0 (isK_280 8 (by decide)) (heldAll_one (may_whole (N := 1) hc3 (by decide) (by omega) false)) MN (HWH.out hp) (M' := []))
  have hall : ∀ i (hi : i < T.size), T[i].toNat < 97 := fun i hi => digB_all b c1 c2 n _ (by rw [← hTl]; have := lst_get T i hi; exact List.mem_of_getElem? this)
  have hhd : 0 < n → ∀ h : 0 < T.size, T[0] ≠ 48 := fun h0 h e => by
    have h2 := (digB_head b c1 c2 n h0).1
    rw [← hTl] at h2
    have h3 := lst_get T 0 h
    rw [List.head?_eq_getElem?, h3, e] at h2
    exact h2 rfl
  have tm1 : v.tmod 2147483648 = n := by rw [Int.tmod_eq_emod_of_nonneg v0, hn]
  have tm2 : base.tmod 35 = base % 35 := Int.tmod_eq_emod_of_nonneg b0
  have q1 : eqO ⟨3, false, n, 0, 0, ⟨#[]⟩⟩ ⟨3, false, n, 0, 0, ⟨#[]⟩⟩ = true := eqO_self _
  have HMN := hid' MN
  have HMB := hid' MB
  have HB2 := hid' hB2
  have HALL := hid' hall
  have HHD := hid' hhd
  have HU := hid' hU
  have HD2 := hid' (fun w' => digits2_any b (by omega) w')
  have hTi : (T.size : Int) ≤ 31 := by omega
  have hni : (n : Int) < 2147483648 := by omega
  have hn0 : (0 : Int) ≤ n := by omega
  have hDS := hid' (dig2_len b c1 c2)
  have hTN := hid' (show T.size ≤ 31 by omega)
  have hmk : ∀ W : World, (Instr.makeSlice 35 (.int .i64 40) (.int .i64 40)).run Try.prog W = .ok (.slice (some ⟨W.heap.size, 0, none⟩) 40 40) (W.alloc (zrowB 40)) := fun W => make_z 40 W (by decide)
  clear MN MB hT hTs hTl hU hUr hL2 e2 hB2 hc3 hall hhd hz40 HNUM HWH hlen c1 c2 n1 hl2
  have HN := hid' hn
  have HB := hid' hb
  go_enter Try.func4, Try.ntmps4
  go_wp2_with fail
  refine (known21_any w).mono ?_
  rintro r w1 ⟨rfl, X1⟩
  go_wp2_with fail
  refine (fresh21_any (Ats.start X1)).mono ?_
  rintro r w2 ⟨hp, sp, rfl, S2⟩
  have S3 := S2.alloc (wBox hp sp)
  clear S2
  go_upto_region 5 with (fail)
  generalize hW : w2.alloc _ = w3 at *
  clear hW
  obtain ⟨KB, hKB⟩ : ∃ KB : List (Nat × Obj), KB = [(w2.heap.size, wBox hp sp)] := ⟨_, rfl⟩
  rw [← hKB] at S3
  have RW := WS.cells (w0 := w) (hp := hp) (sp := sp) (KB := KB) (g := w2.heap.size) (cs := #[ptr hp, ptr sp]) (T := 26) (fz := (0, 0)) (by rw [hKB]; exact m0)
  have HKB := hid' hKB
  clear hKB
  have HSA := hid' S3
  have hS := WS.of0 S3
  clear S3
  go_region_held3 (fun W' => WS w hp sp KB W') (first | (with_reducible assumption) | (with_reducible exact WS.of0 S4b) | (with_reducible exact WS.of0 S4a) | (with_reducible exact WS.drew (by with_reducible assumption)))
    (first | (go_at_call 9; refine (num21_any _ _).mono ?_; rintro r w4a ⟨rfl, X4⟩; have S4a := StkAt.pure (by first | exact HSA.out | exact HSA.out.drew) X4) | (go_at_call 11; refine (stk_push S4a (iO n) HMN.out (by simp)).mono ?_; rintro r w4b ⟨rfl, S4b⟩))
  clear X4 S4a hS HSA
  go_upto_region 6 with (fail)
  have HSA := hid' S4b
  have hS := WS.of0 S4b
  clear S4b
  go_region_held3 (fun W' => WS w hp sp KB W') (first | (with_reducible assumption) | (with_reducible exact WS.of0 S5b) | (with_reducible exact WS.of0 S5a) | (with_reducible exact WS.drew (by with_reducible assumption)))
    (first | (go_at_call 9; refine (num21_any _ _).mono ?_; rintro r w5a ⟨rfl, X5⟩; have S5a := StkAt.pure (by first | exact HSA.out | exact HSA.out.drew) X5) | (go_at_call 11; refine (stk_push S5a (iO b) HMB.out (by simp)).mono ?_; rintro r w5b ⟨rfl, S5b⟩))
  clear X5 S5a hS HSA
  have S6 : StkAt w w5b [(hp, [])] [(w2.heap.size, wBox hp sp)] sp [iO n, iO b] := HKB.out ▸ S5b
  clear S5b RW HKB
  go_upto_region 7 with (fail)
  generalize w5b = w6 at *
  have HC1 := hid' (conv_z 40 w6.heap.size (w6.drew.alloc (zrowB 40)) (blk_new w6.drew _))
  have HC2 := hid' (conv_z 40 w6.heap.size (w6.alloc (zrowB 40)).drew (blk_drew (blk_new w6 _)))
  have hc1 := HC1.out
  have hc2 := HC2.out
  (try clear Ra); (try clear ya); (try clear Za)
  have Ra := cells_of (S6.box _ m0)
  have ya := blk_lt (S6.box _ m0)
  (try simp only at Ra ya)
  have HS7 := hid' S6
  have HZ1 := hid' (zero_size 40)
  clear S6
  go_cut [5, 6, 7] (fun v5 v6 v7 wx => v5 = .int .i64 n ∧ v6 = .int .i64 b ∧ v7 = ptr w2.heap.size ∧ StkAt w wx [(hp, [txt (zeroL 40)])] [(w2.heap.size, wBox hp sp)] sp [iO n, iO b, strN 0 false 0 40])
  case first =>
    go_region_with ((go_at_call 12; refine (HTZ.out hp sp _ _ (by first | exact (HS7.out.pure ((Chg.refl NoB w6).alloc (zrowB 40)).drew) | exact (HS7.out.pure ((Chg.refl NoB w6).drew.alloc (zrowB 40))))).mono ?_; rintro r w9 ⟨rfl, S9⟩))
    all_goals
      rw [zero_list, HZ1.out] at S9
      go_wp2_with fail
      go_meet
      exact ⟨rfl, rfl, rfl, S9⟩
  obtain ⟨rfl, rfl, rfl, S9⟩ := hcut
  clear HS7 Ra ya HC1 HC2 hc1 hc2 hmk HTZ
  generalize wc = w9 at *
  (try clear Ra); (try clear ya); (try clear Za)
  have Ra := cells_of (S9.box _ m0)
  have ya := blk_lt (S9.box _ m0)
  (try simp only at Ra ya)
  go_wp2_with fail
  refine (do21_any S9 0 (gv := []) rfl (by simp) (by simp) none 0 (by decide) (fun m o h => by simp at h) ⟨#[99, 118, 114, 115]⟩ 80 0 true op_cvrs (fun w' K' S' => HRS.out hp sp w' K' S')).mono ?_
  rintro r w10 ⟨rfl, S10⟩
  (try clear Ra); (try clear ya); (try clear Za)
  have Ra := cells_of (S10.box _ m0)
  have ya := blk_lt (S10.box _ m0)
  (try simp only at Ra ya)
  clear S9 HRS
  go_wp2_with fail
  refine (top21_any (l := []) (o := strN 0 false 0 T.size) S10 m0 T 0 HB2.out).mono ?_
  rintro r w11 ⟨rfl, S11⟩
  have S12 := S11.alloc (obox (strN 0 false 0 T.size))
  have S13 := S12.keep (List.sublist_cons_self _ _)
  have HX13 := hid' S13
  clear S10 S11 S12 S13 HB2
  go_wp2_with fail
  generalize hW : w11.alloc _ = w12 at *
  clear hW
  clear hni tm1 tm2 v0 v1 b0 b1 hn hb
  go_loop [11] (fun iv => ∃ k : Nat, k ≤ T.size ∧ iv = .int .i64 k) (fun iv => T.size - (intOf iv).toNat)
  case atStart => exact ⟨0, Nat.zero_le _, rfl⟩
  case round =>
    obtain ⟨k, hk, rfl⟩ := hrel
    by_cases hlt : k < T.size
    · have h97 : (T[k].toNat : Int) < 97 := by have := HALL.out k hlt; omega
      have hlt' : (k : Int) < T.size := by omega
      by_cases hk0 : k = 0
      · subst hk0
        by_cases hn0' : n = 0
        · subst hn0'
          obtain ⟨c, hc⟩ : ∃ c : Int, (T[0].toNat : Int) = c := ⟨_, rfl⟩
          by_cases h48 : c = 48
          · have h48' : (c == 48) = true := by simp [h48]
            go_wp2_with fail
            go_round
            case rel => exact ⟨1, by omega, by go_num⟩
            case measure => simp [intOf]; omega
          · have h48' : (c == 48) = false := by simp [h48]
            go_wp2_with fail
            go_round
            case rel => exact ⟨1, by omega, by go_num⟩
            case measure => simp [intOf]; omega
        · have h48 : ((T[0].toNat : Int) == 48) = false := u8_ne (n := 48) (HHD.out (by omega) hlt) (by decide)
          obtain ⟨c, hc⟩ : ∃ c : Int, (T[0].toNat : Int) = c := ⟨_, rfl⟩
          rw [hc] at h48
          have hn1 : (0 : Int) < n := by omega
          clear hn0'
          go_wp2_with fail
          go_round
          case rel => exact ⟨1, by omega, by go_num⟩
          case measure => simp [intOf]; omega
      · have hk1 : ((k : Int) == 0) = false := by simp; omega
        go_wp2_with fail
        go_round
        case rel => exact ⟨k + 1, by omega, by go_num⟩
        case measure => simp [intOf]; omega
    · obtain rfl : k = T.size := by omega
      go_upto_region 15 with (fail)
      obtain ⟨KB, hKB⟩ : ∃ KB : List (Nat × Obj), KB = [(w2.heap.size, wBox hp sp)] := ⟨_, rfl⟩
      have S13 := HX13.out
      rw [← hKB] at S13
      have RW := WS.cells (w0 := w) (hp := hp) (sp := sp) (KB := KB) (g := w2.heap.size) (cs := #[ptr hp, ptr sp]) (T := 26) (fz := (0, 0)) (by rw [hKB]; exact m0)
      have HKB := hid' hKB
      have HSA := hid' S13
      have hS := WS.of0 S13
      have d1 := hDS.out
      have d2 := hTN.out
      have d3 : (9223372036854775807 < (dig2B b).size + 1) = False := by simp only [eq_iff_iff, iff_false]; omega
      have d4 : (9223372036854775807 < (dig2B b).size + 1 + T.size) = False := by simp only [eq_iff_iff, iff_false]; omega
      clear d1 d2
      clear hKB S13 Ra ya
      go_region_held3 (fun W' => WS w hp sp KB W') (first | (with_reducible assumption) | (with_reducible exact WS.of0 S15) | (with_reducible exact WS.of0 S14) | (with_reducible exact WS.drew (by with_reducible assumption)))
        (first | (go_at_call 17; refine (HD2.out _).mono ?_; rintro r w14 ⟨rfl, X14⟩; have S14 := StkAt.pure (by first | exact HSA.out | exact HSA.out.drew) X14) | (go_at_call 12; rw [← HU.out]; refine (HTU.out hp sp _ _ S14).mono ?_; rintro r w15 ⟨rfl, S15⟩))
      have S16 : StkAt w w15 [(hp, L2 ++ [txt U.toList])] [(w2.heap.size, wBox hp sp)] sp ([] ++ [strN 1 false 0 U.size]) := HKB.out ▸ S15
      clear d3 d4 X14 S14 hS HSA RW S15 HKB
      (try clear Ra); (try clear ya); (try clear Za)
      have Ra := cells_of (S16.box _ m0)
      have ya := blk_lt (S16.box _ m0)
      (try simp only at Ra ya)
      go_wp2_with fail
      refine (do21_any S16 0 (gv := []) rfl (by simp) (by simp) none 0 (by decide) (fun m o h => by simp at h) ⟨#[99, 118, 105]⟩ 76 0 true op_cvi (fun w' K' S' => HCI.out hp sp w' K' S')).mono ?_
      rintro r w17 ⟨rfl, S17⟩
      (try clear Ra); (try clear ya); (try clear Za)
      have Ra := cells_of (S17.box _ m0)
      have ya := blk_lt (S17.box _ m0)
      (try simp only at Ra ya)
      clear S16 HCI
      go_wp2_with fail
      refine (top21_any (l := []) (o := iO n) S17 m0 ⟨#[]⟩ 6 (bytes_not _ _ rfl)).mono ?_
      rintro r w18 ⟨rfl, S18⟩
      have S19 := S18.alloc (obox (iO n))
      clear S17 S18 Ra ya
      go_upto_region 18 with (fail)
      generalize w18.alloc _ = w19 at *
      have HX := hid' S19.chg
      have R19 := Chg.cells (S := NoB) (S19.box _ m0) id
      clear S19
      simp only at R19
      go_region_held3 (fun W' => Chg NoB w19 W') (first | (with_reducible assumption) | (with_reducible exact (Chg.refl _ _).drew) | (with_reducible exact Chg.drew (by with_reducible assumption)) | (with_reducible exact Chg.pure (by with_reducible assumption) (by with_reducible assumption)))
        ((go_at_call 9; refine (num21_any _ _).mono ?_; rintro r w20 ⟨rfl, X20⟩))
      go_wp2_with fail
      go_ret
      exact ⟨rfl, HX.out.pure (by with_reducible assumption)⟩
theorem convBases_any (v base : Int) (v0 : 0 ≤ v) (v1 : v < 4294967296) (b0 : 0 ≤ base) (b1 : base < 256) (w : World) :
    Calls Try.prog 4 #[.int .u32 v, .int .u8 base] w fun e w' => e = .returned (.bool true) ∧ Chg NoB w w' :=
  convBases_nat v base v0 v1 b0 b1 (v % 2147483648).toNat (2 + base % 35).toNat (by omega) (by omega) w
end Go.Proofs.Ythelgahojgdehaa
