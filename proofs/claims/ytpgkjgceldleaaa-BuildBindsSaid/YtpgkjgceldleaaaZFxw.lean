/- Walk: numtext.Fix; say.Plain of a fix. -/
import Derived.Test.YtpgkjgceldleaaaZPlnum
import Derived.Test.YtpgkjgceldleaaaZSaya
import Derived.StillTailTactics
import Derived.Deep.DeepCutAuto
import Derived.Test.YtpgkjgceldleaaaZHeapc
namespace Go.Proofs.Ytpgkjgceldleaaa
open Go.RowKit

set_option maxRecDepth 100000 in
set_option maxHeartbeats 4000000 in
theorem fixText_any (v : Int) (h0 : -1073741823 ≤ v) (h1 : v ≤ 1073741823) (w : World) :
    Calls Try.prog 81 #[.int .i64 v] w fun r w' => r = .returned (.string ⟨(fixL v).toArray⟩) ∧ Chg NoB w w' := by
  obtain ⟨s, hs⟩ : ∃ s : Int, (v.natAbs : Int) = s := ⟨_, rfl⟩
  obtain ⟨sg, hsg⟩ : ∃ sg : ByteArray, sg = ⟨(if v < 0 then [45] else ([] : List UInt8)).toArray⟩ := ⟨_, rfl⟩
  have hsgl : sg.toList = if v < 0 then [45] else [] := by rw [hsg, arr_lst]
  have hsgs : sg.size ≤ 1 := by rw [hsg]; split <;> simp [ByteArray.size]
  have hs0 : 0 ≤ s := by omega
  have hs1 : s ≤ 1073741823 := by omega
  have HFL := hid' (show (⟨(fixL v).toArray⟩ : ByteArray) = ⟨(sg.toList ++ sizeL (kF s) (nearF (kF s) s)).toArray⟩ by rw [hsgl]; unfold fixL; rw [hs])
  have key : ∀ (w1 : World), Chg NoB w w1 → True := fun _ _ => trivial
  clear key
  have HKR := hid' (kF_rng s)
  have HKO := hid' (kF_ok s hs0 hs1)
  have HKN := hid' (kF_no s)
  have hsgi : (sg.size : Int) ≤ 1 := by omega
  have hsv : (if v < 0 then (⟨#[45]⟩ : ByteArray) else ⟨#[]⟩) = sg := by rw [hsg]; split <;> rfl
  have hvv : (if v < 0 then -v else v) = s := by split <;> omega
  clear hsgl hsg hs
  go_enter Try.func81, Try.ntmps81
  by_cases c : v < 0
  all_goals
    (first | rw [if_pos c] at hsv hvv | rw [if_neg c] at hsv hvv)
    go_upto_region 6 with (fail)
    (try rw [hsv])
    (try rw [hvv])
    clear hsv hvv c
    go_wp2_with fail
    go_loopw [5] (fun cv wr => ∃ k : Nat, 1 ≤ k ∧ k ≤ kF s ∧ cv = .int .i64 k ∧ Chg NoB w wr) (fun cv _ => 6 - (intOf cv).toNat)
    case atStart => exact ⟨1, Nat.le_refl _, HKR.out.1, rfl, Chg.refl _ _⟩
    case round =>
      obtain ⟨k, hk1, hk2, rfl, X⟩ := hrel
      have HX := hid' X
      obtain ⟨p, hp⟩ : ∃ p : Int, (10 : Int) ^ k = p := ⟨_, rfl⟩
      have hp1 : 1 ≤ p ∧ p ≤ 100000 := by
        rw [← hp]
        have := HKR.out
        have : k = 1 ∨ k = 2 ∨ k = 3 ∨ k = 4 ∨ k = 5 := by omega
        rcases this with rfl | rfl | rfl | rfl | rfl <;> decide
      obtain ⟨p0, p1⟩ := hp1
      have HT := hid' (fun w' => tens_any k (by have := HKR.out; omega) w')
      rw [hp] at HT
      have m0' : 0 ≤ s * p := Int.mul_nonneg hs0 (by omega)
      have m1' : s * p ≤ 107374182300000 := Int.le_trans (Int.mul_le_mul_of_nonneg_left p1 hs0) (by omega)
      obtain ⟨q, hq⟩ : ∃ q : Int, s * p = q := ⟨_, rfl⟩
      rw [hq] at m0' m1'
      obtain ⟨n, hn⟩ : ∃ n : Int, nearI q 65536 = n := ⟨_, rfl⟩
      have HN1 := hid' (fun w' => nearest_any q 65536 m0' (by omega) (by decide) (by decide) w')
      rw [hn] at HN1
      have n01 : 0 ≤ n ∧ n ≤ 1638400000 := by
        rw [← hn]
        unfold nearI
        split <;> omega
      obtain ⟨n0, n1⟩ := n01
      obtain ⟨z, hz⟩ : ∃ z : Int, nearI (n * 65536) p = z := ⟨_, rfl⟩
      have HN2 := hid' (fun w' => nearest_any (n * 65536) p (by omega) (by omega) p0 (by omega) w')
      rw [hz] at HN2
      have hok : okF k s = (z == s) := by unfold okF nearF; rw [hp, hq, hn, hz]
      have hnf : nearF k s = n := by unfold nearF; rw [hp, hq, hn]
      have HNF := hid' hnf
      have HP := hid' hp
      have HQ := hid' hq
      have wq : IntKind.i64.wrap (s * p) = q := by rw [hq]; exact IntWalk.i64_in _ (by omega)
      have hk6 : (k : Int) ≤ 5 := by have := HKR.out; omega
      obtain ⟨a, ha⟩ : ∃ a : Nat, n / p = (a : Int) := ⟨(n / p).toNat, by have := Int.ediv_nonneg n0 (show 0 ≤ p by omega); omega⟩
      obtain ⟨rr, hr⟩ : ∃ rr : Nat, n % p = (rr : Int) := ⟨(n % p).toNat, by have := Int.emod_nonneg n (show p ≠ 0 by omega); omega⟩
      have hrp : (rr : Int) < p := by rw [← hr]; exact Int.emod_lt_of_pos n (by omega)
      have han : (a : Int) ≤ n := by rw [← ha]; exact Int.ediv_le_self p n0
      have tm : n.tmod p = rr := by rw [Int.tmod_eq_emod_of_nonneg n0, hr]
      have td : n.tdiv p = a := by rw [Int.tdiv_eq_ediv_of_nonneg n0, ha]
      have HDR := hid' (fun w' => decimal_any rr (by omega) w')
      have HDA := hid' (fun w' => decimal_any a (by omega) w')
      have hlr : (decL rr).length ≤ k := by
        obtain ⟨j, rfl⟩ : ∃ j, k = j + 1 := ⟨k - 1, by omega⟩
        refine decL_len rr j ?_
        have : ((10 ^ (j + 1) : Nat) : Int) = p := by rw [← hp]; push_cast; rfl
        omega
      have hla : (decL a).length ≤ 15 := decL_len a 14 (by omega)
      have HSL := hid' (show sizeL k n = decL a ++ 46 :: padL k (decL rr) by unfold sizeL; rw [hp, ha, hr, Int.toNat_natCast, Int.toNat_natCast])
      by_cases hkk : k = kF s
      · have hzs : z = s := by
          have := HKO.out
          rw [← hkk, hok] at this
          simpa using this
        subst hzs
        have HKK := hid' hkk
        clear hok hnf hp hn hz hkk hk2 X
        go_wp2_with fail
        refine (HT.out _).mono ?_
        rintro r w1 ⟨rfl, rfl⟩
        go_wp2_with fail
        refine (HN1.out _).mono ?_
        rintro r w2 ⟨rfl, X2⟩
        have HX2 := hid' (HX.out.pure X2)
        clear X2
        go_wp2_with fail
        refine (HN2.out _).mono ?_
        rintro r w3 ⟨rfl, X3⟩
        have HX3 := hid' (HX2.out.pure X3)
        clear X3 HX2 HX
        go_wp2_with fail
        refine (HDR.out _).mono ?_
        rintro r w4 ⟨rfl, X4⟩
        have HX4 := hid' (HX3.out.pure X4)
        clear X4 HX3
        obtain ⟨S0, hS0⟩ : ∃ S0 : ByteArray, S0 = ⟨(decL rr).toArray⟩ := ⟨_, rfl⟩
        have hS0l : S0.toList = decL rr := by rw [hS0]; exact arr_lst _
        have hS0s : S0.size = (decL rr).length := by rw [← size_lst, hS0l]
        rw [← hS0]
        have HS0 := hid' hS0l
        have HS1 := hid' hS0s
        have HLR := hid' hlr
        clear hS0 hS0l hS0s hlr
        go_wp2_with fail
        go_loopw [8] (fun bv wr => ∃ (S : ByteArray) (m : Nat), m ≤ k ∧ S.size = m ∧ bv = .string S ∧ S.toList = List.replicate (m - (decL rr).length) 48 ++ decL rr ∧ (decL rr).length ≤ m ∧ Chg NoB w wr) (fun bv _ => match bv with | .string S => k - S.size | _ => 0)
        case atStart => exact ⟨S0, (decL rr).length, HLR.out, HS1.out, rfl, by rw [Nat.sub_self, HS0.out]; rfl, Nat.le_refl _, HX4.out⟩
        case round =>
          obtain ⟨S, m, hm, hSz, rfl, hSl, hml, X5⟩ := hrel
          have HX5 := hid' X5
          have HSZ := hid' hSz
          have HSQ := hid' hSl
          have hm5 : S.size ≤ 5 := by have := HKR.out; omega
          clear X5 hSl
          by_cases hlt : m < k
          · have hlt' : decide (S.size < k) = true := by rw [hSz]; simpa using hlt
            have hlt2 : S.size < k := by omega
            clear hSz hlt
            go_wp2_with fail
            go_roundw
            case rel =>
              refine ⟨_, m + 1, by have := HSZ.out; omega, ?_, rfl, ?_, by omega, HX5.out⟩
              · rw [ByteArray.size_append, HSZ.out]; have : (⟨#[48]⟩ : ByteArray).size = 1 := rfl; omega
              · rw [app_lst, one_lst, HSQ.out, show m + 1 - (decL rr).length = (m - (decL rr).length) + 1 by omega, List.replicate_succ]; rfl
            case measure => change k - (⟨#[48]⟩ ++ S : ByteArray).size < k - S.size; rw [ByteArray.size_append]; have : (⟨#[48]⟩ : ByteArray).size = 1 := rfl; omega
          · obtain rfl : m = k := by omega
            have hge : ¬ S.size < m := by omega
            clear hSz hlt
            go_wp2_with fail
            refine (HDA.out _).mono ?_
            rintro r w6 ⟨rfl, X6⟩
            have HX6 := hid' (HX5.out.pure X6)
            obtain ⟨D, hD⟩ : ∃ D : ByteArray, D = ⟨(decL a).toArray⟩ := ⟨_, rfl⟩
            have hDl : D.toList = decL a := by rw [hD]; exact arr_lst _
            have hDs : D.size ≤ 15 := by rw [← size_lst, hDl]; exact hla
            rw [← hD]
            have HD := hid' hDl
            clear hD hDl X6
            go_wp2_with fail
            go_ret
            refine ⟨congrArg (fun s => Ending.returned (.string s)) ?_, HX6.out⟩
            rw [HFL.out, ← HKK.out, HNF.out, HSL.out]
            refine lst_inj (s := sg ++ D ++ ⟨#[46]⟩ ++ S) ?_
            refine Eq.trans ?_ (arr_lst _).symm
            rw [app_lst, app_lst, app_lst, one_lst, HD.out, HSQ.out]
            simp [padL]
      · have hno : okF k s = false := HKN.out k hk1 (by omega)
        have hzs : (z != s) = true := by rw [hok] at hno; simpa using hno
        have HKK := hid' hkk
        have HK2 := hid' hk2
        clear hok hnf hp hn hz hkk hk2 X hno
        go_wp2_with fail
        refine (HT.out _).mono ?_
        rintro r w1 ⟨rfl, rfl⟩
        go_wp2_with fail
        refine (HN1.out _).mono ?_
        rintro r w2 ⟨rfl, X2⟩
        have HX2 := hid' (HX.out.pure X2)
        clear X2
        go_wp2_with fail
        refine (HN2.out _).mono ?_
        rintro r w3 ⟨rfl, X3⟩
        have HX3 := hid' (HX2.out.pure X3)
        clear X3 HX2 HX
        go_wp2_with fail
        go_roundw
        case rel => exact ⟨k + 1, by omega, by have := HKK.out; have := HK2.out; omega, by go_num, HX3.out⟩
        case measure => simp [intOf]; have := HK2.out; have := HKR.out; omega
/-- say.Plain of a fix. -/
theorem plain_fix (v : Int) (hp : Nat) (h0 : -1073741823 ≤ v) (h1 : v ≤ 1073741823) (w : World) :
    Calls Try.prog 67 #[ptr hp, (fO v).val] w fun r w' => r = .returned (.string ⟨(fixL v).toArray⟩) ∧ Chg NoB w w' := by
  have HM := may_any (fO v)
  rw [show mayO (fO v) = true by simp [mayO, eqO, bareO, O.nil, h0, h1]] at HM
  have HM2 := hid' HM
  have HN := hid' (fixText_any v h0 h1)
  clear HM
  go_enter Try.func67, Try.ntmps67
  go_wp2_with fail
  have hb := blk_new w (.cells #[.int .i64 4, .bool false, .int .i64 v, .int .i64 0, .int .i64 0, .string ⟨#[]⟩] 36)
  have X := (Chg.refl NoB w).alloc (.cells #[.int .i64 4, .bool false, .int .i64 v, .int .i64 0, .int .i64 0, .string ⟨#[]⟩] 36)
  generalize w.alloc (.cells #[.int .i64 4, .bool false, .int .i64 v, .int .i64 0, .int .i64 0, .string ⟨#[]⟩] 36) = w1 at *
  refine (HM2.out _).mono ?_
  rintro r w2 ⟨rfl, X2⟩
  have R2 := cells_of (X2.blk hb id)
  have l2 := blk_lt (X2.blk hb id)
  clear hb
  go_wp2_with fail
  refine (HN.out _).mono ?_
  rintro r w3 ⟨rfl, X3⟩
  go_wp2_with fail
  go_ret
  exact ⟨rfl, (X.trans X2).trans X3⟩
end Go.Proofs.Ytpgkjgceldleaaa
