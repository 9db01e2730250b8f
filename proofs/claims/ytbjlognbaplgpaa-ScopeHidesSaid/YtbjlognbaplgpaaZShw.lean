/- Walk: tympanlaw16.ScopeHides. -/
import Derived.Test.YtbjlognbaplgpaaZScpc
namespace Go.Proofs.Ytbjlognbaplgpaa
open Go.RowKit

set_option maxRecDepth 100000 in
set_option maxHeartbeats 8000000 in
theorem scopeHides_any (a0 : ByteArray) (a1 a2 : Int) (a3 : Bool) (w : World) (hs0 : a0.size ≤ maxLen) (l1 : 0 ≤ a1) (u1 : a1 < 256) (l2 : 0 ≤ a2) (u2 : a2 < 256) :
    Calls Try.prog 11 #[.string a0, .int .u8 a1, .int .u8 a2, .bool a3] w fun e w' => e = .returned (.bool true) ∧ Chg NoB w w' := by
  obtain ⟨m, hm, hm1, hm2⟩ : ∃ m : Nat, 1 + a1 % 10 = (m : Int) ∧ 1 ≤ m ∧ m ≤ 10 := ⟨(1 + a1 % 10).toNat, by omega, by omega, by omega⟩
  obtain ⟨p, hp, hp2⟩ : ∃ p : Nat, a2 % 2 = (p : Int) ∧ p < 2 := ⟨(a2 % 2).toNat, by omega, by omega⟩
  have tm1 : a1.tmod 10 = a1 % 10 := Int.tmod_eq_emod_of_nonneg l1
  have tm2 : a2.tmod 2 = a2 % 2 := Int.tmod_eq_emod_of_nonneg l2
  have hszi : (a0.size : Int) ≤ 9223372036854775807 := by unfold maxLen at hs0; omega
  have hmw := IntWalk.i64_in (1 + a1 % 10) (by omega)
  clear hs0
  by_cases hbig : (100 : Int) < a0.size
  · go_enter Try.func11, Try.ntmps11
    go_wp2_with fail
    refine (known16_any w).mono ?_
    rintro e w1 ⟨rfl, X1⟩
    go_wp2_with fail
    go_ret
    exact ⟨rfl, X1⟩
  have hsz : a0.size ≤ 100 := by omega
  go_enter Try.func11, Try.ntmps11
  go_wp2_with fail
  refine (known16_any w).mono ?_
  rintro e w1 ⟨rfl, X1⟩
  clear hszi
  cases a3
  · go_wp2_with fail
    generalize a0 = s at *
    refine (at_hnew (Ats.start X1)).mono ?_
    rintro e w2 ⟨hb, rfl, A2⟩
    clear X1
    go_wp2_with fail
    refine (q_new A2).mono ?_
    rintro e w3 ⟨sp, rfl, S3⟩
    clear A2
    go_wp2_with fail
    refine (name16_any _ _).mono ?_
    rintro e w4 ⟨rfl, X4⟩
    go_wp2_with fail
    refine (q_find sysQ sysQ_ok 2 (S3.pure X4) (by decide) (by decide) s hsz).mono ?_
    rintro e w5 ⟨rfl, S5⟩
    clear S3 X4
    have HB := hid' (fun j => look_H s p m hp2 j)
    have HZ := hid' (look_low s p m (nameO s))
    obtain ⟨bv, bd, be, hbase⟩ : ∃ bv bd be, lookN sysQ (nameO s) 2 = (bv, bd, be) := ⟨_, _, _, rfl⟩
    rw [hbase] at HB HZ ⊢
    clear hbase
    obtain ⟨vk, vx, vn, vp, vl, vs⟩ := bv
    obtain ⟨dk, dx, dn, dp, dl, dS⟩ := bd
    go_wp2_with fail
    have S6 := (S5.alloc (.cells #[.int .i64 vk, .bool vx, .int .i64 vn, .int .i64 vp, .int .i64 vl, .string vs] 27)).alloc (.cells #[.int .i64 dk, .bool dx, .int .i64 dn, .int .i64 dp, .int .i64 dl, .string dS] 27)
    simp only [World.size_alloc] at S6
    clear S5
    generalize hW : (w5.alloc _).alloc _ = w6 at *
    clear hW
    generalize w5.heap.size = c at *
    change ScpAt w w6 [(hb, hQ (HQ s p 0))] [(c + 1, obox ⟨dk, dx, dn, dp, dl, dS⟩), (c, obox ⟨vk, vx, vn, vp, vl, vs⟩)] sp hb (dsQ 2) at S6
    try simp only [tm1, hm, hmw]
    go_loopw [16] (fun iv wr => ∃ i : Nat, i ≤ m ∧ iv = .int .i64 i ∧ ScpAt w wr [(hb, hQ (HQ s p i))] [(c + 1, obox ⟨dk, dx, dn, dp, dl, dS⟩), (c, obox ⟨vk, vx, vn, vp, vl, vs⟩)] sp hb (dsQ (i + 2))) (fun iv _ => m - (intOf iv).toNat)
    case atStart => exact ⟨0, by omega, rfl, S6⟩
    case round =>
      obtain ⟨i, hi, rfl, S7⟩ := hrel
      clear S6
      by_cases hlt : i < m
      · have hlt' : (i : Int) < m := by omega
        have h0i : (0 : Int) ≤ i := by omega
        have hi100 : (i : Int) ≤ 100 := by omega
        have ed : dcn (i + 2) = dicO ((i : Int) + 2) := by simp [dcn]
        have hnew := HQ_new s p i (by omega)
        have hok := okQ_snoc (HQ_ok s p i (by omega)) (q := ([], 3, false)) (by decide) (by rw [HQ_length]; omega)
        have hln : (HQ s p i ++ [(([], 3, false) : DQ)]).length = i + 3 := by rw [List.length_append, HQ_length]; rfl
        have hat : (HQ s p i ++ [(([], 3, false) : DQ)])[i + 2]? = some ([], 3, false) := by rw [List.getElem?_append_right (by rw [HQ_length]; omega), HQ_length, Nat.sub_self]; rfl
        have HBG := hid' (fun w' (K' : List (Nat × Obj)) (S : ScpAt w w' [(hb, hQ (HQ s p i ++ [([], 3, false)]))] K' sp hb (dsQ (i + 2))) => q_begin _ hok (i + 2) S (by omega) (by omega) (by omega))
        have HDF := hid' (fun w' (K' : List (Nat × Obj)) (S : ScpAt w w' [(hb, hQ (HQ s p i ++ [([], 3, false)]))] K' sp hb (dsQ (i + 2 + 1))) => q_def _ hok (i + 2) S [] 3 hat (by decide) s hsz (numO i) (may_num _ _ (by omega) (by omega)))
        have HE1 := hid' (fun h => HQ_def s p i h)
        have HE2 := hid' (fun h => HQ_not s p i h)
        rw [ed] at hnew HBG
        clear hok hln hat ed
        go_wp2_with fail
        refine (scp_dnew S7 3 hnew).mono ?_
        rintro e w8 ⟨rfl, S8⟩
        clear S7 hnew
        go_wp2_with fail
        refine (HBG.out _ _ (S8.alloc _)).mono ?_
        rintro e w9 ⟨rfl, S9⟩
        clear S8 HBG
        have tmi : (i : Int).tmod 2 = (i : Int) % 2 := Int.tmod_eq_emod_of_nonneg h0i
        by_cases hc : i % 2 = p
        · have e1 : ((i : Int) % 2 == (p : Int)) = true := by simp; omega
          have HE := hid' (HE1.out hc)
          clear HE1 HE2 hc
          go_wp2_with fail
          refine (name16_any _ _).mono ?_
          rintro e w10 ⟨rfl, X10⟩
          go_wp2_with fail
          refine (HDF.out _ _ (S9.pure X10)).mono ?_
          rintro e w11 ⟨rfl, S11⟩
          rw [HE.out] at S11
          have S12 := S11.keep (List.sublist_cons_self _ _)
          clear S9 S11 X10 HDF
          go_wp2_with fail
          go_roundw
          case rel => exact ⟨i + 1, by omega, by go_num, S12⟩
          case measure => simp [intOf]; omega
        · have e1 : ((i : Int) % 2 == (p : Int)) = false := by simp; omega
          have S12 := S9.keep (List.sublist_cons_self _ _)
          rw [HE2.out hc] at S12
          clear HE1 HE2 hc S9 HDF
          go_wp2_with fail
          go_roundw
          case rel => exact ⟨i + 1, by omega, by go_num, S12⟩
          case measure => simp [intOf]; omega
      · obtain rfl : i = m := by omega
        have hlt' : ¬ (i : Int) < i := by omega
        have hm0 : (0 : Int) ≤ (i : Int) - 1 := by omega
        have tml : ((i : Int) - 1).tmod 2 = ((i : Int) - 1) % 2 := Int.tmod_eq_emod_of_nonneg hm0
        have hmi : (i : Int) ≤ 10 := by omega
        have HF := hid' (fun (w' : World) (S : ScpAt w w' [(hb, hQ (HQ s p i))] [(c + 1, obox ⟨dk, dx, dn, dp, dl, dS⟩), (c, obox ⟨vk, vx, vn, vp, vl, vs⟩)] sp hb (dsQ (i + 2))) => q_find _ (HQ_ok s p i (by omega)) (i + 2) S (by omega) (Nat.le_of_eq (HQ_length s p i).symm) s hsz)
        have hlook := HB.out i (Nat.le_refl _)
        rw [if_neg (by omega)] at hlook
        have HFF := hid' (fun (w' : World) (K' : List (Nat × Obj)) (S : ScpAt w w' [(hb, hQ (HQ s p i))] K' sp hb (dsQ 2)) => q_find _ (HQ_ok s p i (by omega)) 2 S (by omega) (by rw [HQ_length]; omega) s hsz)
        rw [HZ.out] at HFF
        clear HB HZ
        by_cases hc : (i - 1) % 2 = p
        · rw [if_pos hc] at hlook
          have e1 : (((i : Int) - 1) % 2 != (p : Int)) = false := by simp; omega
          have eN : ((i - 1 : Nat) : Int) = (i : Int) - 1 := by omega
          have eD : ((i + 1 : Nat) : Int) = (i : Int) + 1 := by omega
          simp only [eN, eD] at hlook
          rw [hlook] at HF
          clear hc hlook eN eD
          go_wp2_with fail
          refine (name16_any _ _).mono ?_
          rintro e w8 ⟨rfl, X8⟩
          go_wp2_with fail
          refine (HF.out _ (S7.pure X8)).mono ?_
          rintro e w9 ⟨rfl, S9⟩
          clear S7 X8 HF
          have S10 := (S9.alloc (.cells #[.int .i64 3, .bool false, .int .i64 ((i : Int) - 1), .int .i64 0, .int .i64 0, .string ⟨#[]⟩] 27)).alloc (.cells #[.int .i64 10, .bool false, .int .i64 ((i : Int) + 1), .int .i64 0, .int .i64 0, .string ⟨#[]⟩] 27)
          simp only [World.size_alloc] at S10
          have R12 := cells_of (S10.box (c, obox ⟨vk, vx, vn, vp, vl, vs⟩) m3)
          have y12 := blk_lt (S10.box (c, obox ⟨vk, vx, vn, vp, vl, vs⟩) m3)
          simp only at R12 y12
          have S11 := S10.keep ((List.sublist_cons_self _ _).trans (List.sublist_cons_self _ _))
          have HS := hid' S11
          clear S9 S11
          go_wp2_with fail
          clear R12 y12 S10
          go_loopw [23] (fun iv wr => ∃ j : Nat, j ≤ i ∧ iv = .int .i64 j ∧ ScpAt w wr [(hb, hQ (HQ s p i))] [(c + 1, obox ⟨dk, dx, dn, dp, dl, dS⟩), (c, obox ⟨vk, vx, vn, vp, vl, vs⟩)] sp hb (dsQ (i - j + 2))) (fun iv _ => i - (intOf iv).toNat)
          case atStart => exact ⟨0, by omega, rfl, by simpa using HS.out⟩
          case round =>
            obtain ⟨j, hj, rfl, S12⟩ := hrel
            by_cases hlt : j < i
            · have hltj : (j : Int) < i := by omega
              have hj0 : (j : Int) ≤ 100 := by omega
              have ej : i - j + 2 = (i - (j + 1) + 2) + 1 := by omega
              rw [ej] at S12
              go_wp2_with fail
              refine (q_end _ S12 (by omega) (by omega)).mono ?_
              rintro e w10 ⟨rfl, S13⟩
              go_wp2_with fail
              go_roundw
              case rel => exact ⟨j + 1, by omega, by go_num, S13⟩
              case measure => simp [intOf]; omega
            · obtain rfl : j = i := by omega
              rw [Nat.sub_self, Nat.zero_add] at S12
              go_wp2_with fail
              refine (name16_any _ _).mono ?_
              rintro e w10 ⟨rfl, X10⟩
              go_wp2_with fail
              refine (HFF.out _ _ (S12.pure X10)).mono ?_
              rintro e w11 ⟨rfl, S13⟩
              have S14 := (S13.alloc (.cells #[.int .i64 vk, .bool vx, .int .i64 vn, .int .i64 vp, .int .i64 vl, .string vs] 27)).alloc (.cells #[.int .i64 dk, .bool dx, .int .i64 dn, .int .i64 dp, .int .i64 dl, .string dS] 27)
              simp only [World.size_alloc] at S14
              have q1' : eqO ⟨vk, vx, vn, vp, vl, vs⟩ ⟨vk, vx, vn, vp, vl, vs⟩ = true := eqO_self _
              have q2' : eqO ⟨dk, dx, dn, dp, dl, dS⟩ ⟨dk, dx, dn, dp, dl, dS⟩ = true := eqO_self _
              have R12 := cells_of (S14.box (c, obox ⟨vk, vx, vn, vp, vl, vs⟩) m3)
              have y12 := blk_lt (S14.box (c, obox ⟨vk, vx, vn, vp, vl, vs⟩) m3)
              have R13 := cells_of (S14.box (c + 1, obox ⟨dk, dx, dn, dp, dl, dS⟩) m2)
              have y13 := blk_lt (S14.box (c + 1, obox ⟨dk, dx, dn, dp, dl, dS⟩) m2)
              simp only at R12 y12 R13 y13
              have HS := hid' S14
              clear S12 S13 X10 HFF S14
              go_wp2_with fail
              refine (q_depth 2 HS.out).mono ?_
              rintro e w12 ⟨rfl, S15⟩
              go_wp2_with fail
              go_ret
              exact ⟨rfl, S15.chg⟩
        · rw [if_neg hc] at hlook
          have e1 : (((i : Int) - 1) % 2 != (p : Int)) = true := by simp; omega
          by_cases h1 : i = 1
          · rw [if_pos h1] at hlook
            have e2 : (i : Int) - 1 - 1 < 0 := by omega
            have e3 : ¬ (0 : Int) ≤ (i : Int) - 1 - 1 := by omega
            have q1 : eqO ⟨vk, vx, vn, vp, vl, vs⟩ ⟨vk, vx, vn, vp, vl, vs⟩ = true := eqO_self _
            rw [hlook] at HF
            clear hc hlook h1
            go_wp2_with fail
            refine (name16_any _ _).mono ?_
            rintro e w8 ⟨rfl, X8⟩
            go_wp2_with fail
            refine (HF.out _ (S7.pure X8)).mono ?_
            rintro e w9 ⟨rfl, S9⟩
            clear S7 X8 HF
            have S10 := (S9.alloc (.cells #[.int .i64 vk, .bool vx, .int .i64 vn, .int .i64 vp, .int .i64 vl, .string vs] 27)).alloc (.cells #[.int .i64 dk, .bool dx, .int .i64 dn, .int .i64 dp, .int .i64 dl, .string dS] 27)
            simp only [World.size_alloc] at S10
            have R12 := cells_of (S10.box (c, obox ⟨vk, vx, vn, vp, vl, vs⟩) m3)
            have y12 := blk_lt (S10.box (c, obox ⟨vk, vx, vn, vp, vl, vs⟩) m3)
            simp only at R12 y12
            have S11 := S10.keep ((List.sublist_cons_self _ _).trans (List.sublist_cons_self _ _))
            have HS := hid' S11
            clear S9 S11
            go_wp2_with fail
            clear R12 y12 S10
            go_loopw [23] (fun iv wr => ∃ j : Nat, j ≤ i ∧ iv = .int .i64 j ∧ ScpAt w wr [(hb, hQ (HQ s p i))] [(c + 1, obox ⟨dk, dx, dn, dp, dl, dS⟩), (c, obox ⟨vk, vx, vn, vp, vl, vs⟩)] sp hb (dsQ (i - j + 2))) (fun iv _ => i - (intOf iv).toNat)
            case atStart => exact ⟨0, by omega, rfl, by simpa using HS.out⟩
            case round =>
              obtain ⟨j, hj, rfl, S12⟩ := hrel
              by_cases hlt : j < i
              · have hltj : (j : Int) < i := by omega
                have hj0 : (j : Int) ≤ 100 := by omega
                have ej : i - j + 2 = (i - (j + 1) + 2) + 1 := by omega
                rw [ej] at S12
                go_wp2_with fail
                refine (q_end _ S12 (by omega) (by omega)).mono ?_
                rintro e w10 ⟨rfl, S13⟩
                go_wp2_with fail
                go_roundw
                case rel => exact ⟨j + 1, by omega, by go_num, S13⟩
                case measure => simp [intOf]; omega
              · obtain rfl : j = i := by omega
                rw [Nat.sub_self, Nat.zero_add] at S12
                go_wp2_with fail
                refine (name16_any _ _).mono ?_
                rintro e w10 ⟨rfl, X10⟩
                go_wp2_with fail
                refine (HFF.out _ _ (S12.pure X10)).mono ?_
                rintro e w11 ⟨rfl, S13⟩
                have S14 := (S13.alloc (.cells #[.int .i64 vk, .bool vx, .int .i64 vn, .int .i64 vp, .int .i64 vl, .string vs] 27)).alloc (.cells #[.int .i64 dk, .bool dx, .int .i64 dn, .int .i64 dp, .int .i64 dl, .string dS] 27)
                simp only [World.size_alloc] at S14
                have q1' : eqO ⟨vk, vx, vn, vp, vl, vs⟩ ⟨vk, vx, vn, vp, vl, vs⟩ = true := eqO_self _
                have q2' : eqO ⟨dk, dx, dn, dp, dl, dS⟩ ⟨dk, dx, dn, dp, dl, dS⟩ = true := eqO_self _
                have R12 := cells_of (S14.box (c, obox ⟨vk, vx, vn, vp, vl, vs⟩) m3)
                have y12 := blk_lt (S14.box (c, obox ⟨vk, vx, vn, vp, vl, vs⟩) m3)
                have R13 := cells_of (S14.box (c + 1, obox ⟨dk, dx, dn, dp, dl, dS⟩) m2)
                have y13 := blk_lt (S14.box (c + 1, obox ⟨dk, dx, dn, dp, dl, dS⟩) m2)
                simp only at R12 y12 R13 y13
                have HS := hid' S14
                clear S12 S13 X10 HFF S14
                go_wp2_with fail
                refine (q_depth 2 HS.out).mono ?_
                rintro e w12 ⟨rfl, S15⟩
                go_wp2_with fail
                go_ret
                exact ⟨rfl, S15.chg⟩
          · rw [if_neg h1] at hlook
            have e2 : ¬ (i : Int) - 1 - 1 < 0 := by omega
            have e3 : (0 : Int) ≤ (i : Int) - 1 - 1 := by omega
            have eN : ((i - 2 : Nat) : Int) = (i : Int) - 1 - 1 := by omega
            simp only [eN] at hlook
            rw [hlook] at HF
            clear hc hlook eN h1
            go_wp2_with fail
            refine (name16_any _ _).mono ?_
            rintro e w8 ⟨rfl, X8⟩
            go_wp2_with fail
            refine (HF.out _ (S7.pure X8)).mono ?_
            rintro e w9 ⟨rfl, S9⟩
            clear S7 X8 HF
            have S10 := (S9.alloc (.cells #[.int .i64 3, .bool false, .int .i64 ((i : Int) - 1 - 1), .int .i64 0, .int .i64 0, .string ⟨#[]⟩] 27)).alloc (.cells #[.int .i64 10, .bool false, .int .i64 (i : Int), .int .i64 0, .int .i64 0, .string ⟨#[]⟩] 27)
            simp only [World.size_alloc] at S10
            have R12 := cells_of (S10.box (c, obox ⟨vk, vx, vn, vp, vl, vs⟩) m3)
            have y12 := blk_lt (S10.box (c, obox ⟨vk, vx, vn, vp, vl, vs⟩) m3)
            simp only at R12 y12
            have S11 := S10.keep ((List.sublist_cons_self _ _).trans (List.sublist_cons_self _ _))
            have HS := hid' S11
            clear S9 S11
            go_wp2_with fail
            clear R12 y12 S10
            go_loopw [23] (fun iv wr => ∃ j : Nat, j ≤ i ∧ iv = .int .i64 j ∧ ScpAt w wr [(hb, hQ (HQ s p i))] [(c + 1, obox ⟨dk, dx, dn, dp, dl, dS⟩), (c, obox ⟨vk, vx, vn, vp, vl, vs⟩)] sp hb (dsQ (i - j + 2))) (fun iv _ => i - (intOf iv).toNat)
            case atStart => exact ⟨0, by omega, rfl, by simpa using HS.out⟩
            case round =>
              obtain ⟨j, hj, rfl, S12⟩ := hrel
              by_cases hlt : j < i
              · have hltj : (j : Int) < i := by omega
                have hj0 : (j : Int) ≤ 100 := by omega
                have ej : i - j + 2 = (i - (j + 1) + 2) + 1 := by omega
                rw [ej] at S12
                go_wp2_with fail
                refine (q_end _ S12 (by omega) (by omega)).mono ?_
                rintro e w10 ⟨rfl, S13⟩
                go_wp2_with fail
                go_roundw
                case rel => exact ⟨j + 1, by omega, by go_num, S13⟩
                case measure => simp [intOf]; omega
              · obtain rfl : j = i := by omega
                rw [Nat.sub_self, Nat.zero_add] at S12
                go_wp2_with fail
                refine (name16_any _ _).mono ?_
                rintro e w10 ⟨rfl, X10⟩
                go_wp2_with fail
                refine (HFF.out _ _ (S12.pure X10)).mono ?_
                rintro e w11 ⟨rfl, S13⟩
                have S14 := (S13.alloc (.cells #[.int .i64 vk, .bool vx, .int .i64 vn, .int .i64 vp, .int .i64 vl, .string vs] 27)).alloc (.cells #[.int .i64 dk, .bool dx, .int .i64 dn, .int .i64 dp, .int .i64 dl, .string dS] 27)
                simp only [World.size_alloc] at S14
                have q1' : eqO ⟨vk, vx, vn, vp, vl, vs⟩ ⟨vk, vx, vn, vp, vl, vs⟩ = true := eqO_self _
                have q2' : eqO ⟨dk, dx, dn, dp, dl, dS⟩ ⟨dk, dx, dn, dp, dl, dS⟩ = true := eqO_self _
                have R12 := cells_of (S14.box (c, obox ⟨vk, vx, vn, vp, vl, vs⟩) m3)
                have y12 := blk_lt (S14.box (c, obox ⟨vk, vx, vn, vp, vl, vs⟩) m3)
                have R13 := cells_of (S14.box (c + 1, obox ⟨dk, dx, dn, dp, dl, dS⟩) m2)
                have y13 := blk_lt (S14.box (c + 1, obox ⟨dk, dx, dn, dp, dl, dS⟩) m2)
                simp only at R12 y12 R13 y13
                have HS := hid' S14
                clear S12 S13 X10 HFF S14
                go_wp2_with fail
                refine (q_depth 2 HS.out).mono ?_
                rintro e w12 ⟨rfl, S15⟩
                go_wp2_with fail
                go_ret
                exact ⟨rfl, S15.chg⟩
  · go_wp2_with fail
    have hsz : (⟨#[97, 100, 100]⟩ : ByteArray).size ≤ 100 := by decide
    generalize (⟨#[97, 100, 100]⟩ : ByteArray) = s at *
    refine (at_hnew (Ats.start X1)).mono ?_
    rintro e w2 ⟨hb, rfl, A2⟩
    clear X1
    go_wp2_with fail
    refine (q_new A2).mono ?_
    rintro e w3 ⟨sp, rfl, S3⟩
    clear A2
    go_wp2_with fail
    refine (name16_any _ _).mono ?_
    rintro e w4 ⟨rfl, X4⟩
    go_wp2_with fail
    refine (q_find sysQ sysQ_ok 2 (S3.pure X4) (by decide) (by decide) s hsz).mono ?_
    rintro e w5 ⟨rfl, S5⟩
    clear S3 X4
    have HB := hid' (fun j => look_H s p m hp2 j)
    have HZ := hid' (look_low s p m (nameO s))
    obtain ⟨bv, bd, be, hbase⟩ : ∃ bv bd be, lookN sysQ (nameO s) 2 = (bv, bd, be) := ⟨_, _, _, rfl⟩
    rw [hbase] at HB HZ ⊢
    clear hbase
    obtain ⟨vk, vx, vn, vp, vl, vs⟩ := bv
    obtain ⟨dk, dx, dn, dp, dl, dS⟩ := bd
    go_wp2_with fail
    have S6 := (S5.alloc (.cells #[.int .i64 vk, .bool vx, .int .i64 vn, .int .i64 vp, .int .i64 vl, .string vs] 27)).alloc (.cells #[.int .i64 dk, .bool dx, .int .i64 dn, .int .i64 dp, .int .i64 dl, .string dS] 27)
    simp only [World.size_alloc] at S6
    clear S5
    generalize hW : (w5.alloc _).alloc _ = w6 at *
    clear hW
    generalize w5.heap.size = c at *
    change ScpAt w w6 [(hb, hQ (HQ s p 0))] [(c + 1, obox ⟨dk, dx, dn, dp, dl, dS⟩), (c, obox ⟨vk, vx, vn, vp, vl, vs⟩)] sp hb (dsQ 2) at S6
    try simp only [tm1, hm, hmw]
    go_loopw [16] (fun iv wr => ∃ i : Nat, i ≤ m ∧ iv = .int .i64 i ∧ ScpAt w wr [(hb, hQ (HQ s p i))] [(c + 1, obox ⟨dk, dx, dn, dp, dl, dS⟩), (c, obox ⟨vk, vx, vn, vp, vl, vs⟩)] sp hb (dsQ (i + 2))) (fun iv _ => m - (intOf iv).toNat)
    case atStart => exact ⟨0, by omega, rfl, S6⟩
    case round =>
      obtain ⟨i, hi, rfl, S7⟩ := hrel
      clear S6
      by_cases hlt : i < m
      · have hlt' : (i : Int) < m := by omega
        have h0i : (0 : Int) ≤ i := by omega
        have hi100 : (i : Int) ≤ 100 := by omega
        have ed : dcn (i + 2) = dicO ((i : Int) + 2) := by simp [dcn]
        have hnew := HQ_new s p i (by omega)
        have hok := okQ_snoc (HQ_ok s p i (by omega)) (q := ([], 3, false)) (by decide) (by rw [HQ_length]; omega)
        have hln : (HQ s p i ++ [(([], 3, false) : DQ)]).length = i + 3 := by rw [List.length_append, HQ_length]; rfl
        have hat : (HQ s p i ++ [(([], 3, false) : DQ)])[i + 2]? = some ([], 3, false) := by rw [List.getElem?_append_right (by rw [HQ_length]; omega), HQ_length, Nat.sub_self]; rfl
        have HBG := hid' (fun w' (K' : List (Nat × Obj)) (S : ScpAt w w' [(hb, hQ (HQ s p i ++ [([], 3, false)]))] K' sp hb (dsQ (i + 2))) => q_begin _ hok (i + 2) S (by omega) (by omega) (by omega))
        have HDF := hid' (fun w' (K' : List (Nat × Obj)) (S : ScpAt w w' [(hb, hQ (HQ s p i ++ [([], 3, false)]))] K' sp hb (dsQ (i + 2 + 1))) => q_def _ hok (i + 2) S [] 3 hat (by decide) s hsz (numO i) (may_num _ _ (by omega) (by omega)))
        have HE1 := hid' (fun h => HQ_def s p i h)
        have HE2 := hid' (fun h => HQ_not s p i h)
        rw [ed] at hnew HBG
        clear hok hln hat ed
        go_wp2_with fail
        refine (scp_dnew S7 3 hnew).mono ?_
        rintro e w8 ⟨rfl, S8⟩
        clear S7 hnew
        go_wp2_with fail
        refine (HBG.out _ _ (S8.alloc _)).mono ?_
        rintro e w9 ⟨rfl, S9⟩
        clear S8 HBG
        have tmi : (i : Int).tmod 2 = (i : Int) % 2 := Int.tmod_eq_emod_of_nonneg h0i
        by_cases hc : i % 2 = p
        · have e1 : ((i : Int) % 2 == (p : Int)) = true := by simp; omega
          have HE := hid' (HE1.out hc)
          clear HE1 HE2 hc
          go_wp2_with fail
          refine (name16_any _ _).mono ?_
          rintro e w10 ⟨rfl, X10⟩
          go_wp2_with fail
          refine (HDF.out _ _ (S9.pure X10)).mono ?_
          rintro e w11 ⟨rfl, S11⟩
          rw [HE.out] at S11
          have S12 := S11.keep (List.sublist_cons_self _ _)
          clear S9 S11 X10 HDF
          go_wp2_with fail
          go_roundw
          case rel => exact ⟨i + 1, by omega, by go_num, S12⟩
          case measure => simp [intOf]; omega
        · have e1 : ((i : Int) % 2 == (p : Int)) = false := by simp; omega
          have S12 := S9.keep (List.sublist_cons_self _ _)
          rw [HE2.out hc] at S12
          clear HE1 HE2 hc S9 HDF
          go_wp2_with fail
          go_roundw
          case rel => exact ⟨i + 1, by omega, by go_num, S12⟩
          case measure => simp [intOf]; omega
      · obtain rfl : i = m := by omega
        have hlt' : ¬ (i : Int) < i := by omega
        have hm0 : (0 : Int) ≤ (i : Int) - 1 := by omega
        have tml : ((i : Int) - 1).tmod 2 = ((i : Int) - 1) % 2 := Int.tmod_eq_emod_of_nonneg hm0
        have hmi : (i : Int) ≤ 10 := by omega
        have HF := hid' (fun (w' : World) (S : ScpAt w w' [(hb, hQ (HQ s p i))] [(c + 1, obox ⟨dk, dx, dn, dp, dl, dS⟩), (c, obox ⟨vk, vx, vn, vp, vl, vs⟩)] sp hb (dsQ (i + 2))) => q_find _ (HQ_ok s p i (by omega)) (i + 2) S (by omega) (Nat.le_of_eq (HQ_length s p i).symm) s hsz)
        have hlook := HB.out i (Nat.le_refl _)
        rw [if_neg (by omega)] at hlook
        have HFF := hid' (fun (w' : World) (K' : List (Nat × Obj)) (S : ScpAt w w' [(hb, hQ (HQ s p i))] K' sp hb (dsQ 2)) => q_find _ (HQ_ok s p i (by omega)) 2 S (by omega) (by rw [HQ_length]; omega) s hsz)
        rw [HZ.out] at HFF
        clear HB HZ
        by_cases hc : (i - 1) % 2 = p
        · rw [if_pos hc] at hlook
          have e1 : (((i : Int) - 1) % 2 != (p : Int)) = false := by simp; omega
          have eN : ((i - 1 : Nat) : Int) = (i : Int) - 1 := by omega
          have eD : ((i + 1 : Nat) : Int) = (i : Int) + 1 := by omega
          simp only [eN, eD] at hlook
          rw [hlook] at HF
          clear hc hlook eN eD
          go_wp2_with fail
          refine (name16_any _ _).mono ?_
          rintro e w8 ⟨rfl, X8⟩
          go_wp2_with fail
          refine (HF.out _ (S7.pure X8)).mono ?_
          rintro e w9 ⟨rfl, S9⟩
          clear S7 X8 HF
          have S10 := (S9.alloc (.cells #[.int .i64 3, .bool false, .int .i64 ((i : Int) - 1), .int .i64 0, .int .i64 0, .string ⟨#[]⟩] 27)).alloc (.cells #[.int .i64 10, .bool false, .int .i64 ((i : Int) + 1), .int .i64 0, .int .i64 0, .string ⟨#[]⟩] 27)
          simp only [World.size_alloc] at S10
          have R12 := cells_of (S10.box (c, obox ⟨vk, vx, vn, vp, vl, vs⟩) m3)
          have y12 := blk_lt (S10.box (c, obox ⟨vk, vx, vn, vp, vl, vs⟩) m3)
          simp only at R12 y12
          have S11 := S10.keep ((List.sublist_cons_self _ _).trans (List.sublist_cons_self _ _))
          have HS := hid' S11
          clear S9 S11
          go_wp2_with fail
          clear R12 y12 S10
          go_loopw [23] (fun iv wr => ∃ j : Nat, j ≤ i ∧ iv = .int .i64 j ∧ ScpAt w wr [(hb, hQ (HQ s p i))] [(c + 1, obox ⟨dk, dx, dn, dp, dl, dS⟩), (c, obox ⟨vk, vx, vn, vp, vl, vs⟩)] sp hb (dsQ (i - j + 2))) (fun iv _ => i - (intOf iv).toNat)
          case atStart => exact ⟨0, by omega, rfl, by simpa using HS.out⟩
          case round =>
            obtain ⟨j, hj, rfl, S12⟩ := hrel
            by_cases hlt : j < i
            · have hltj : (j : Int) < i := by omega
              have hj0 : (j : Int) ≤ 100 := by omega
              have ej : i - j + 2 = (i - (j + 1) + 2) + 1 := by omega
              rw [ej] at S12
              go_wp2_with fail
              refine (q_end _ S12 (by omega) (by omega)).mono ?_
              rintro e w10 ⟨rfl, S13⟩
              go_wp2_with fail
              go_roundw
              case rel => exact ⟨j + 1, by omega, by go_num, S13⟩
              case measure => simp [intOf]; omega
            · obtain rfl : j = i := by omega
              rw [Nat.sub_self, Nat.zero_add] at S12
              go_wp2_with fail
              refine (name16_any _ _).mono ?_
              rintro e w10 ⟨rfl, X10⟩
              go_wp2_with fail
              refine (HFF.out _ _ (S12.pure X10)).mono ?_
              rintro e w11 ⟨rfl, S13⟩
              have S14 := (S13.alloc (.cells #[.int .i64 vk, .bool vx, .int .i64 vn, .int .i64 vp, .int .i64 vl, .string vs] 27)).alloc (.cells #[.int .i64 dk, .bool dx, .int .i64 dn, .int .i64 dp, .int .i64 dl, .string dS] 27)
              simp only [World.size_alloc] at S14
              have q1' : eqO ⟨vk, vx, vn, vp, vl, vs⟩ ⟨vk, vx, vn, vp, vl, vs⟩ = true := eqO_self _
              have q2' : eqO ⟨dk, dx, dn, dp, dl, dS⟩ ⟨dk, dx, dn, dp, dl, dS⟩ = true := eqO_self _
              have R12 := cells_of (S14.box (c, obox ⟨vk, vx, vn, vp, vl, vs⟩) m3)
              have y12 := blk_lt (S14.box (c, obox ⟨vk, vx, vn, vp, vl, vs⟩) m3)
              have R13 := cells_of (S14.box (c + 1, obox ⟨dk, dx, dn, dp, dl, dS⟩) m2)
              have y13 := blk_lt (S14.box (c + 1, obox ⟨dk, dx, dn, dp, dl, dS⟩) m2)
              simp only at R12 y12 R13 y13
              have HS := hid' S14
              clear S12 S13 X10 HFF S14
              go_wp2_with fail
              refine (q_depth 2 HS.out).mono ?_
              rintro e w12 ⟨rfl, S15⟩
              go_wp2_with fail
              go_ret
              exact ⟨rfl, S15.chg⟩
        · rw [if_neg hc] at hlook
          have e1 : (((i : Int) - 1) % 2 != (p : Int)) = true := by simp; omega
          by_cases h1 : i = 1
          · rw [if_pos h1] at hlook
            have e2 : (i : Int) - 1 - 1 < 0 := by omega
            have e3 : ¬ (0 : Int) ≤ (i : Int) - 1 - 1 := by omega
            have q1 : eqO ⟨vk, vx, vn, vp, vl, vs⟩ ⟨vk, vx, vn, vp, vl, vs⟩ = true := eqO_self _
            rw [hlook] at HF
            clear hc hlook h1
            go_wp2_with fail
            refine (name16_any _ _).mono ?_
            rintro e w8 ⟨rfl, X8⟩
            go_wp2_with fail
            refine (HF.out _ (S7.pure X8)).mono ?_
            rintro e w9 ⟨rfl, S9⟩
            clear S7 X8 HF
            have S10 := (S9.alloc (.cells #[.int .i64 vk, .bool vx, .int .i64 vn, .int .i64 vp, .int .i64 vl, .string vs] 27)).alloc (.cells #[.int .i64 dk, .bool dx, .int .i64 dn, .int .i64 dp, .int .i64 dl, .string dS] 27)
            simp only [World.size_alloc] at S10
            have R12 := cells_of (S10.box (c, obox ⟨vk, vx, vn, vp, vl, vs⟩) m3)
            have y12 := blk_lt (S10.box (c, obox ⟨vk, vx, vn, vp, vl, vs⟩) m3)
            simp only at R12 y12
            have S11 := S10.keep ((List.sublist_cons_self _ _).trans (List.sublist_cons_self _ _))
            have HS := hid' S11
            clear S9 S11
            go_wp2_with fail
            clear R12 y12 S10
            go_loopw [23] (fun iv wr => ∃ j : Nat, j ≤ i ∧ iv = .int .i64 j ∧ ScpAt w wr [(hb, hQ (HQ s p i))] [(c + 1, obox ⟨dk, dx, dn, dp, dl, dS⟩), (c, obox ⟨vk, vx, vn, vp, vl, vs⟩)] sp hb (dsQ (i - j + 2))) (fun iv _ => i - (intOf iv).toNat)
            case atStart => exact ⟨0, by omega, rfl, by simpa using HS.out⟩
            case round =>
              obtain ⟨j, hj, rfl, S12⟩ := hrel
              by_cases hlt : j < i
              · have hltj : (j : Int) < i := by omega
                have hj0 : (j : Int) ≤ 100 := by omega
                have ej : i - j + 2 = (i - (j + 1) + 2) + 1 := by omega
                rw [ej] at S12
                go_wp2_with fail
                refine (q_end _ S12 (by omega) (by omega)).mono ?_
                rintro e w10 ⟨rfl, S13⟩
                go_wp2_with fail
                go_roundw
                case rel => exact ⟨j + 1, by omega, by go_num, S13⟩
                case measure => simp [intOf]; omega
              · obtain rfl : j = i := by omega
                rw [Nat.sub_self, Nat.zero_add] at S12
                go_wp2_with fail
                refine (name16_any _ _).mono ?_
                rintro e w10 ⟨rfl, X10⟩
                go_wp2_with fail
                refine (HFF.out _ _ (S12.pure X10)).mono ?_
                rintro e w11 ⟨rfl, S13⟩
                have S14 := (S13.alloc (.cells #[.int .i64 vk, .bool vx, .int .i64 vn, .int .i64 vp, .int .i64 vl, .string vs] 27)).alloc (.cells #[.int .i64 dk, .bool dx, .int .i64 dn, .int .i64 dp, .int .i64 dl, .string dS] 27)
                simp only [World.size_alloc] at S14
                have q1' : eqO ⟨vk, vx, vn, vp, vl, vs⟩ ⟨vk, vx, vn, vp, vl, vs⟩ = true := eqO_self _
                have q2' : eqO ⟨dk, dx, dn, dp, dl, dS⟩ ⟨dk, dx, dn, dp, dl, dS⟩ = true := eqO_self _
                have R12 := cells_of (S14.box (c, obox ⟨vk, vx, vn, vp, vl, vs⟩) m3)
                have y12 := blk_lt (S14.box (c, obox ⟨vk, vx, vn, vp, vl, vs⟩) m3)
                have R13 := cells_of (S14.box (c + 1, obox ⟨dk, dx, dn, dp, dl, dS⟩) m2)
                have y13 := blk_lt (S14.box (c + 1, obox ⟨dk, dx, dn, dp, dl, dS⟩) m2)
                simp only at R12 y12 R13 y13
                have HS := hid' S14
                clear S12 S13 X10 HFF S14
                go_wp2_with fail
                refine (q_depth 2 HS.out).mono ?_
                rintro e w12 ⟨rfl, S15⟩
                go_wp2_with fail
                go_ret
                exact ⟨rfl, S15.chg⟩
          · rw [if_neg h1] at hlook
            have e2 : ¬ (i : Int) - 1 - 1 < 0 := by omega
            have e3 : (0 : Int) ≤ (i : Int) - 1 - 1 := by omega
            have eN : ((i - 2 : Nat) : Int) = (i : Int) - 1 - 1 := by omega
            simp only [eN] at hlook
            rw [hlook] at HF
            clear hc hlook eN h1
            go_wp2_with fail
            refine (name16_any _ _).mono ?_
            rintro e w8 ⟨rfl, X8⟩
            go_wp2_with fail
            refine (HF.out _ (S7.pure X8)).mono ?_
            rintro e w9 ⟨rfl, S9⟩
            clear S7 X8 HF
            have S10 := (S9.alloc (.cells #[.int .i64 3, .bool false, .int .i64 ((i : Int) - 1 - 1), .int .i64 0, .int .i64 0, .string ⟨#[]⟩] 27)).alloc (.cells #[.int .i64 10, .bool false, .int .i64 (i : Int), .int .i64 0, .int .i64 0, .string ⟨#[]⟩] 27)
            simp only [World.size_alloc] at S10
            have R12 := cells_of (S10.box (c, obox ⟨vk, vx, vn, vp, vl, vs⟩) m3)
            have y12 := blk_lt (S10.box (c, obox ⟨vk, vx, vn, vp, vl, vs⟩) m3)
            simp only at R12 y12
            have S11 := S10.keep ((List.sublist_cons_self _ _).trans (List.sublist_cons_self _ _))
            have HS := hid' S11
            clear S9 S11
            go_wp2_with fail
            clear R12 y12 S10
            go_loopw [23] (fun iv wr => ∃ j : Nat, j ≤ i ∧ iv = .int .i64 j ∧ ScpAt w wr [(hb, hQ (HQ s p i))] [(c + 1, obox ⟨dk, dx, dn, dp, dl, dS⟩), (c, obox ⟨vk, vx, vn, vp, vl, vs⟩)] sp hb (dsQ (i - j + 2))) (fun iv _ => i - (intOf iv).toNat)
            case atStart => exact ⟨0, by omega, rfl, by simpa using HS.out⟩
            case round =>
              obtain ⟨j, hj, rfl, S12⟩ := hrel
              by_cases hlt : j < i
              · have hltj : (j : Int) < i := by omega
                have hj0 : (j : Int) ≤ 100 := by omega
                have ej : i - j + 2 = (i - (j + 1) + 2) + 1 := by omega
                rw [ej] at S12
                go_wp2_with fail
                refine (q_end _ S12 (by omega) (by omega)).mono ?_
                rintro e w10 ⟨rfl, S13⟩
                go_wp2_with fail
                go_roundw
                case rel => exact ⟨j + 1, by omega, by go_num, S13⟩
                case measure => simp [intOf]; omega
              · obtain rfl : j = i := by omega
                rw [Nat.sub_self, Nat.zero_add] at S12
                go_wp2_with fail
                refine (name16_any _ _).mono ?_
                rintro e w10 ⟨rfl, X10⟩
                go_wp2_with fail
                refine (HFF.out _ _ (S12.pure X10)).mono ?_
                rintro e w11 ⟨rfl, S13⟩
                have S14 := (S13.alloc (.cells #[.int .i64 vk, .bool vx, .int .i64 vn, .int .i64 vp, .int .i64 vl, .string vs] 27)).alloc (.cells #[.int .i64 dk, .bool dx, .int .i64 dn, .int .i64 dp, .int .i64 dl, .string dS] 27)
                simp only [World.size_alloc] at S14
                have q1' : eqO ⟨vk, vx, vn, vp, vl, vs⟩ ⟨vk, vx, vn, vp, vl, vs⟩ = true := eqO_self _
                have q2' : eqO ⟨dk, dx, dn, dp, dl, dS⟩ ⟨dk, dx, dn, dp, dl, dS⟩ = true := eqO_self _
                have R12 := cells_of (S14.box (c, obox ⟨vk, vx, vn, vp, vl, vs⟩) m3)
                have y12 := blk_lt (S14.box (c, obox ⟨vk, vx, vn, vp, vl, vs⟩) m3)
                have R13 := cells_of (S14.box (c + 1, obox ⟨dk, dx, dn, dp, dl, dS⟩) m2)
                have y13 := blk_lt (S14.box (c + 1, obox ⟨dk, dx, dn, dp, dl, dS⟩) m2)
                simp only at R12 y12 R13 y13
                have HS := hid' S14
                clear S12 S13 X10 HFF S14
                go_wp2_with fail
                refine (q_depth 2 HS.out).mono ?_
                rintro e w12 ⟨rfl, S15⟩
                go_wp2_with fail
                go_ret
                exact ⟨rfl, S15.chg⟩
end Go.Proofs.Ytbjlognbaplgpaa
