/- Re6, Rf6, Ra7 -/
import Derived.Test.YtgahapnjlngebaaZRefa
import Derived.Test.YtgahapnjlngebaaZPlnum
import Derived.Test.YtgahapnjlngebaaZChar
import Derived.Test.YtgahapnjlngebaaZTokc
import Derived.Deep.DeepCutAuto
import Derived.Test.YtgahapnjlngebaaZWhf
import Derived.Test.YtgahapnjlngebaaZQpr
/- Walk: layer 6's reference: positive, Int, places; plain: a number with a point is read, or is too much. -/
namespace Go.Proofs.Ytgahapnjlngebaa
open Go.RowKit

abbrev tenR : ByteArray := ⟨#[48, 49, 50, 51, 52, 53, 54, 55, 56, 57]⟩
theorem ten_digR (d : Nat) (h : d < 10) : tenR.extract d (d + 1) = ⟨#[dgB d]⟩ := by
  have : ∀ d : Fin 10, tenR.extract d (d + 1) = ⟨#[dgB d.val]⟩ := by decide +kernel
  exact this ⟨d, h⟩
theorem decL_size (n : Nat) (h : n ≤ 100000000000000000) : (decL n).length ≤ 18 := decL_len n 17 (by omega)
set_option maxRecDepth 100000 in
theorem positive_any (n : Nat) : n ≤ 100000000000000000 → ∀ w : World,
    Calls Try.prog 61 #[.int .u64 n] w fun e w' => e = .returned (.string (bytesB (decL n))) ∧ Chg NoB w w' := by
  induction n using Nat.strongRecOn with
  | _ n ih =>
    intro hn w
    by_cases c : n < 10
    · have h1 := ten_digR n c
      have h2 : (n : Int) < 10 := by omega
      have h3 : (0 : Int) ≤ n := by omega
      have h4 : IntKind.u64.wrap ((n : Int) + 1) = (n : Int) + 1 := by rw [IntKind.wrap_u64]; omega
      have h5 : ((n : Int) + 1).toNat = n + 1 := by omega
      have h6 : (n : Int) + 1 ≤ 10 := by omega
      have h7 : (n : Int) ≤ (n : Int) + 1 := by omega
      rw [decL_lo n c]
      clear ih c
      go_enter Try.func61, Try.ntmps61
      go_wp2_with fail
      go_ret
      exact ⟨rfl, Chg.refl _ _⟩
    · rw [decL_hi n c]
      obtain ⟨q, hq⟩ : ∃ q, n / 10 = q := ⟨_, rfl⟩
      obtain ⟨d, hd⟩ : ∃ d, n % 10 = d := ⟨_, rfl⟩
      have hL := hid' (ih q (by omega) (by omega))
      have hone := ten_digR d (by omega)
      have hsz := decL_size q (by omega)
      have e1 : (n : Int) / 10 = q := by omega
      have e2 : (n : Int) % 10 = d := by omega
      have tm : (n : Int).tmod 10 = d := by rw [Int.tmod_eq_emod_of_nonneg (by omega), e2]
      have td : (n : Int).tdiv 10 = q := by rw [Int.tdiv_eq_ediv_of_nonneg (by omega), e1]
      have g1 : (10 : Int) ≤ n := by omega
      have g3 : (0 : Int) ≤ d := by omega
      have g4 : (d : Int) < 10 := by omega
      have x1 : IntKind.u64.wrap (q : Int) = q := by rw [IntKind.wrap_u64]; omega
      have x2 : IntKind.u64.wrap (d : Int) = d := by rw [IntKind.wrap_u64]; omega
      have x3 : IntKind.u64.wrap ((d : Int) + 1) = (d : Int) + 1 := by rw [IntKind.wrap_u64]; omega
      have x4 : (0 : Int) ≤ (d : Int) + 1 := by omega
      have x5 : ((d : Int) + 1).toNat = d + 1 := by omega
      have x6 : (d : Int) + 1 ≤ 10 := by omega
      have x7 : (d : Int) ≤ (d : Int) + 1 := by omega
      have hP : bytesB (decL q ++ [dgB d]) = bytesB (decL q) ++ ⟨#[dgB d]⟩ := by apply lst_inj; rw [app_lst, arr_lst, arr_lst, one_lst]
      rw [hq, hd, hP]
      have hS : (bytesB (decL q)).size ≤ 18 := by show (decL q).toArray.size ≤ 18; simpa using hsz
      have hS2 : ¬ (9223372036854775807 < (bytesB (decL q)).size + (⟨#[dgB d]⟩ : ByteArray).size) := by
        have : (⟨#[dgB d]⟩ : ByteArray).size = 1 := rfl
        omega
      generalize bytesB (decL q) = Y at *
      generalize (⟨#[dgB d]⟩ : ByteArray) = Z at *
      clear hq hd hP hsz ih c
      go_enter Try.func61, Try.ntmps61
      go_wp2_with fail
      go_region_held3 (fun W' => Chg NoB w W') (first | (with_reducible assumption) | (with_reducible exact (Chg.refl _ _).drew) | (with_reducible exact Chg.drew (by with_reducible assumption)) | (with_reducible exact Chg.pure (by with_reducible assumption) (by with_reducible assumption)))
        ((go_at_call 61; refine (hL.out _).mono ?_; rintro r w7 ⟨rfl, X7⟩))
      go_wp2_with fail
      go_ret
      exact ⟨rfl, by with_reducible assumption⟩
set_option maxRecDepth 100000 in
set_option maxHeartbeats 400000 in
theorem magN_any (v : Int) (h0 : -100000000000000000 ≤ v) (h1 : v < 0) (w : World) : Calls Try.prog 62 #[.int .i64 v] w fun e w' => e = .returned (.int .u64 (v.natAbs : Nat)) ∧ w = w' := by
  have e1 : IntKind.u64.wrap (-(v + 1)) = -(v + 1) := by rw [IntKind.wrap_u64]; omega
  have e2 : IntKind.u64.wrap (-(v + 1) + 1) = ((v.natAbs : Nat) : Int) := by rw [IntKind.wrap_u64]; omega
  have e3 : IntKind.i64.wrap (-(v + 1)) = -(v + 1) := IntWalk.i64_in _ (by omega)
  go_enter Try.func62, Try.ntmps62
  go_wp2_with fail
  go_ret
  exact ⟨rfl, rfl⟩
set_option maxRecDepth 100000 in
set_option maxHeartbeats 400000 in
theorem rint_any (v : Int) (h0 : -100000000000000000 ≤ v) (h1 : v ≤ 100000000000000000) (w : World) :
    Calls Try.prog 38 #[.int .i64 v] w fun e w' => e = .returned (.string (bytesB (intL v))) ∧ Chg NoB w w' := by
  have HP := hid' (fun w => positive_any v.natAbs (by omega) w)
  have hsz := decL_size v.natAbs (by omega)
  by_cases c : v < 0
  · have HM := hid' (fun w => magN_any v h0 c w)
    have hP : bytesB (intL v) = ⟨#[45]⟩ ++ bytesB (decL v.natAbs) := by
      apply lst_inj; rw [app_lst, one_lst, arr_lst, arr_lst]; unfold intL; rw [if_pos c]; rfl
    have hS : (bytesB (decL v.natAbs)).size ≤ 18 := by show (decL v.natAbs).toArray.size ≤ 18; simpa using hsz
    have hS2 : ¬ (9223372036854775807 < (⟨#[45]⟩ : ByteArray).size + (bytesB (decL v.natAbs)).size) := by
      have : (⟨#[45]⟩ : ByteArray).size = 1 := rfl
      omega
    rw [hP]
    generalize bytesB (decL v.natAbs) = Y at *
    clear hsz hP
    go_enter Try.func38, Try.ntmps38
    go_wp2_with fail
    refine (HM.out _).mono ?_
    rintro e w1 ⟨rfl, rfl⟩
    go_wp2_with fail
    refine (HP.out _).mono ?_
    rintro e w1 ⟨rfl, X⟩
    go_wp2_with fail
    go_ret
    exact ⟨rfl, X⟩
  · have hP : intL v = decL v.natAbs := by unfold intL; rw [if_neg c]
    have hn : ((v.natAbs : Nat) : Int) = v := by omega
    have c' : 0 ≤ v := by omega
    have e2 : IntKind.u64.wrap v = v := by rw [IntKind.wrap_u64]; omega
    rw [hP]
    rw [hn] at HP
    clear hP hsz
    go_enter Try.func38, Try.ntmps38
    go_wp2_with fail
    refine (HP.out _).mono ?_
    rintro e w1 ⟨rfl, X⟩
    go_wp2_with fail
    go_ret
    exact ⟨rfl, X⟩

theorem padL_snoc (k : Nat) (X : List UInt8) (d : UInt8) : padL (k + 1) (X ++ [d]) = padL k X ++ [d] := by
  unfold padL
  rw [List.length_append, List.length_singleton, show k + 1 - (X.length + 1) = k - X.length by omega, List.append_assoc]
theorem dec_split : ∀ (k : Nat) (n : Nat), padL (k + 2) (decL n) = decL (n / 10 ^ (k + 1)) ++ padL (k + 1) (decL (n % 10 ^ (k + 1)))
  | 0, n => by
    by_cases c : n < 10
    · rw [Nat.zero_add, Nat.pow_one, Nat.div_eq_of_lt c, Nat.mod_eq_of_lt c, decL_lo n c, decL_lo 0 (by decide)]; rfl
    · rw [Nat.zero_add, Nat.pow_one, decL_hi n c, decL_lo (n % 10) (by omega), show (2 : Nat) = 1 + 1 from rfl, padL_snoc]
      have hl : 1 ≤ (decL (n / 10)).length := List.length_pos_iff.2 (decL_ne _)
      unfold padL
      rw [Nat.sub_eq_zero_of_le hl]
      rfl
  | k + 1, n => by
    have e1 : n / 10 ^ (k + 1 + 1) = n / 10 / 10 ^ (k + 1) := by rw [Nat.div_div_eq_div_mul, Nat.pow_succ, Nat.mul_comm]
    have e2 : (n % 10 ^ (k + 1 + 1)) / 10 = n / 10 % 10 ^ (k + 1) := by
      rw [Nat.pow_succ, Nat.mul_comm (10 ^ (k + 1)) 10, Nat.mod_mul]
      omega
    have e3 : (n % 10 ^ (k + 1 + 1)) % 10 = n % 10 := by
      rw [Nat.pow_succ, Nat.mul_comm (10 ^ (k + 1)) 10]
      exact Nat.mod_mul_right_mod n 10 (10 ^ (k + 1))
    have hm : padL (k + 1 + 1) (decL (n % 10 ^ (k + 1 + 1))) = padL (k + 1) (decL (n / 10 % 10 ^ (k + 1))) ++ [dgB (n % 10)] := by
      by_cases c : n % 10 ^ (k + 1 + 1) < 10
      · rw [← e2, Nat.div_eq_of_lt c, decL_lo _ c, decL_lo 0 (by decide), show n % 10 ^ (k + 1 + 1) = n % 10 by omega, show [dgB (n % 10)] = [] ++ [dgB (n % 10)] from rfl, padL_snoc]
        have : padL (k + 1) [] = padL (k + 1) [dgB 0] := by
          unfold padL
          rw [List.length_nil, Nat.sub_zero, List.length_singleton, Nat.add_sub_cancel, List.replicate_succ', List.append_nil]
          rfl
        rw [this]
        rfl
      · rw [decL_hi _ c, padL_snoc, e2, e3]
    rw [hm, e1]
    by_cases c : n < 10
    · have h0 : n / 10 = 0 := by omega
      have := dec_split k 0
      rw [h0]
      rw [show n % 10 = n by omega, decL_lo n c, show [dgB n] = [] ++ [dgB n] from rfl, padL_snoc, ← List.append_assoc, ← this]
      refine congrArg (· ++ [dgB n]) ?_
      rw [decL_lo 0 (by decide)]
      unfold padL
      rw [List.length_nil, Nat.sub_zero, List.length_singleton, show k + 1 + 1 = k + 1 + 1 from rfl, show k + 2 - 1 = k + 1 by omega, List.replicate_succ', List.append_nil]
      rfl
    · have := dec_split k (n / 10)
      rw [decL_hi n c, show k + 1 + 2 = (k + 2) + 1 from rfl, padL_snoc, this, List.append_assoc]
set_option maxRecDepth 100000 in
set_option maxHeartbeats 1000000 in
theorem rplaces_any (x : Nat) (k : Nat) (hx : x ≤ 100000000000000000) (k1 : 1 ≤ k) (k5 : k ≤ 10) (w : World) :
    Calls Try.prog 65 #[.int .i64 x, .int .i64 k] w fun e w' => e = .returned (.string (bytesB (sizeL k x))) ∧ Chg NoB w w' := by
  have HP := hid' (fun w => positive_any x hx w)
  have hsz := decL_size x hx
  have e2 : IntKind.u64.wrap (x : Int) = x := by rw [IntKind.wrap_u64]; omega
  have hk : (k : Int) ≤ 10 := by omega
  have hk1 : 1 ≤ (k : Int) := by omega
  have HSZ := hid' hsz
  clear hsz
  go_enter Try.func65, Try.ntmps65
  go_wp2_with fail
  refine (HP.out _).mono ?_
  rintro e w1 ⟨rfl, X⟩
  go_wp2_with fail
  go_loopw [5] (fun dv wr => ∃ (j : Nat) (D : ByteArray), dv = .string D ∧ D.toList = List.replicate j 48 ++ decL x ∧ (0 < j → D.size ≤ k + 1) ∧ Chg NoB w wr) (fun dv _ => 30 - (match dv with | .string D => D.size | _ => 0))
  case atStart => exact ⟨0, _, rfl, by rw [arr_lst]; rfl, fun h => by omega, X⟩
  case round =>
    obtain ⟨j, D, rfl, hD, hj, X2⟩ := hrel
    clear X
    have hDs : D.size = j + (decL x).length := by rw [← size_lst, hD]; simp
    by_cases c : D.size ≤ k
    · have c' : (D.size : Int) ≤ k := by omega
      have hS2 : ¬ (9223372036854775807 < (⟨#[48]⟩ : ByteArray).size + D.size) := by
        have : (⟨#[48]⟩ : ByteArray).size = 1 := rfl
        omega
      have hT := hid' (show ((⟨#[48]⟩ : ByteArray) ++ D).toList = List.replicate (j + 1) 48 ++ decL x by
        rw [app_lst, one_lst, hD, List.replicate_succ]; rfl)
      have hU : ((⟨#[48]⟩ : ByteArray) ++ D).size = D.size + 1 := by rw [ByteArray.size_append]; show 1 + D.size = _; omega
      generalize hY : (⟨#[48]⟩ : ByteArray) ++ D = Y at *
      clear hD hDs
      go_wp2_with fail
      go_roundw
      case rel => exact ⟨j + 1, Y, rfl, hT.out, fun _ => by omega, X2⟩
      case measure => simp; omega
    · have c' : (k : Int) < D.size := by omega
      have hpad : D.toList = padL (k + 1) (decL x) := by
        have hl := HSZ.out
        rw [hD]
        unfold padL
        refine congrArg (fun n => List.replicate n 48 ++ decL x) ?_
        by_cases hj0 : 0 < j
        · have := hj hj0; omega
        · omega
      obtain ⟨m, rfl⟩ : ∃ m, k = m + 1 := ⟨k - 1, by omega⟩
      have hsp := dec_split m x
      rw [← hpad] at hsp
      have hlen : (padL (m + 1) (decL (x % 10 ^ (m + 1)))).length = m + 1 := padL_len _ _ (decL_len _ m (Nat.mod_lt _ (Nat.pow_pos (by decide))))
      have hDl : D.size = (decL (x / 10 ^ (m + 1))).length + (m + 1) := by rw [← size_lst, hsp, List.length_append, hlen]
      obtain ⟨y1, hy1⟩ : ∃ y, D.extract 0 (D.size - (m + 1)) = y := ⟨_, rfl⟩
      obtain ⟨y2, hy2⟩ : ∃ y, D.extract (D.size - (m + 1)) D.size = y := ⟨_, rfl⟩
      have t1 : ((D.size : Int) - ((m + 1 : Nat) : Int)).toNat = D.size - (m + 1) := by omega
      have t1' : ((D.size : Int) - ((m : Int) + 1)).toNat = D.size - (m + 1) := by omega
      have l1 : y1.toList = decL (x / 10 ^ (m + 1)) := by
        rw [← hy1, ext0_lst, hsp, show D.size - (m + 1) = (decL (x / 10 ^ (m + 1))).length by omega, List.take_left]
      have l2 : y2.toList = padL (m + 1) (decL (x % 10 ^ (m + 1))) := by
        rw [← hy2, extE_lst, hsp, show D.size - (m + 1) = (decL (x / 10 ^ (m + 1))).length by omega, List.drop_left]
      have hQ := hid' (show bytesB (sizeL (m + 1) x) = (y1 ++ ⟨#[46]⟩) ++ y2 by
        apply lst_inj
        rw [app_lst, app_lst, arr_lst, one_lst, l1, l2]
        unfold sizeL
        have e1 : ((x : Int) / 10 ^ (m + 1)).toNat = x / 10 ^ (m + 1) := by
          rw [show (x : Int) / 10 ^ (m + 1) = ((x / 10 ^ (m + 1) : Nat) : Int) by push_cast; rfl, Int.toNat_natCast]
        have e2 : ((x : Int) % 10 ^ (m + 1)).toNat = x % 10 ^ (m + 1) := by
          rw [show (x : Int) % 10 ^ (m + 1) = ((x % 10 ^ (m + 1) : Nat) : Int) by push_cast; rfl, Int.toNat_natCast]
        rw [e1, e2]
        simp)
      have z1 : y1.size ≤ 30 := by rw [← hy1, ByteArray.size_extract]; have := HSZ.out; by_cases hj0 : 0 < j; have := hj hj0; omega; omega
      have z2 : y2.size ≤ 30 := by rw [← hy2, ByteArray.size_extract]; have := HSZ.out; by_cases hj0 : 0 < j; have := hj hj0; omega; omega
      have s1 : ¬ (9223372036854775807 < y1.size + (⟨#[46]⟩ : ByteArray).size) := by
        have : (⟨#[46]⟩ : ByteArray).size = 1 := rfl
        omega
      have s2 : ¬ (9223372036854775807 < (y1 ++ ⟨#[46]⟩).size + y2.size) := by
        rw [ByteArray.size_append]
        have : (⟨#[46]⟩ : ByteArray).size = 1 := rfl
        omega
      have d0 : (0 : Int) ≤ (D.size : Int) - ((m : Int) + 1) := by omega
      have d1 : (D.size : Int) - ((m : Int) + 1) ≤ D.size := by omega
      have hD30 : D.size ≤ 30 := by have := HSZ.out; by_cases hj0 : 0 < j; have := hj hj0; omega; omega
      have d2 : IntKind.i64.wrap ((D.size : Int) - ((m : Int) + 1)) = (D.size : Int) - ((m : Int) + 1) := IntWalk.i64_in _ (by omega)
      clear hD hDs hpad hsp hlen hDl l1 l2 hj c
      go_wp2_with fail
      go_quiet (fail)
      have X3 := X2.drewN nq
      generalize wr.drewN nq = w3 at *
      go_wp2_with fail
      go_ret
      exact ⟨by rw [hQ.out]; rfl, X3⟩
end Go.Proofs.Ytgahapnjlngebaa
/- Walk: layer 6's reference: Fix. -/
namespace Go.Proofs.Ytgahapnjlngebaa
open Go.RowKit

theorem size_big (k : Nat) (hk : 1 ≤ k) (hk5 : k ≤ 5) (n : Int) (hn0 : 0 ≤ n) (hn1 : n ≤ 2000000000) (hbig : 1073741823 < nearI (n * 65536) (10 ^ k)) :
    readS (sizeL k n) 0 false = (0, 0, 2) := by
  have hp : (0 : Int) < 10 ^ k := Int.pow_pos (by decide)
  obtain ⟨p, hpp⟩ : ∃ p : Int, (10 : Int) ^ k = p := ⟨_, rfl⟩
  have hpk : (10 : Nat) ^ k = p.toNat := by
    have : ((10 ^ k : Nat) : Int) = p := by rw [← hpp]; push_cast; rfl
    omega
  unfold sizeL
  rw [hpp] at hp hbig ⊢
  obtain ⟨a, ha⟩ : ∃ a : Nat, n / p = (a : Int) := ⟨(n / p).toNat, by have := Int.ediv_nonneg hn0 (show 0 ≤ p by omega); omega⟩
  obtain ⟨r, hr⟩ : ∃ r : Nat, n % p = (r : Int) := ⟨(n % p).toNat, by have := Int.emod_nonneg n (show p ≠ 0 by omega); omega⟩
  have hrp : (r : Int) < p := by rw [← hr]; exact Int.emod_lt_of_pos n hp
  have hnp : n = a * p + r := by have := Int.mul_ediv_add_emod n p; rw [ha, hr, Int.mul_comm] at this; omega
  have hsp : (a : Int) * 65536 + nearI ((r : Int) * 65536) p = nearI (n * 65536) p := by
    rw [hnp, Int.add_mul, show (a : Int) * p * 65536 = (a * 65536) * p by rw [Int.mul_assoc, Int.mul_comm p, ← Int.mul_assoc], near_split _ _ _ hp (by omega)]
  have ha2 : (a : Int) ≤ 2000000000 := by
    rw [← ha]
    exact Int.le_trans (Int.ediv_le_self p hn0) hn1
  rw [ha, hr, Int.toNat_natCast, Int.toNat_natCast]
  have hlen : (decL r).length ≤ k := by
    obtain ⟨j, rfl⟩ : ∃ j, k = j + 1 := ⟨k - 1, by omega⟩
    exact decL_len r j (by rw [hpk]; omega)
  have hB := padL_len k (decL r) hlen
  have hBd := padL_dig k (decL r) (decL_dig r)
  have hBv : accD 1000000000000 0 (padL k (decL r)) = r := by
    rw [accD_pad _ (by decide), accD_decL]
    have : p ≤ 100000 := by rw [← hpp]; have : k = 1 ∨ k = 2 ∨ k = 3 ∨ k = 4 ∨ k = 5 := by omega
                            rcases this with rfl | rfl | rfl | rfl | rfl <;> decide
    omega
  generalize hBB : padL k (decL r) = B at *
  have hd : digL (decL a ++ 46 :: B) = decL a := takeWh isDig 46 _ (by decide) _ (decL_dig a)
  have hdB : digL B = B := takeW_all _ _ hBd
  have hdr : (decL a ++ 46 :: B).drop ((decL a).length + 1) = B := by
    rw [show decL a ++ 46 :: B = (decL a ++ [46]) ++ B by simp, show (decL a).length + 1 = (decL a ++ [46]).length by simp, List.drop_left]
  have hat : (decL a ++ 46 :: B)[(decL a).length]? = some 46 := by
    rw [List.getElem?_append_right (Nat.le_refl _), Nat.sub_self]; rfl
  have hll : (decL a ++ 46 :: B).length = (decL a).length + 1 + k := by simp [hB]; omega
  unfold readS
  rw [List.drop_zero, hd]
  simp only [Nat.zero_add]
  rw [hdr, hdB, hat, hll, hB, hBv, accD_decL _ a (by omega)]
  rw [if_neg (by omega), if_neg (by simp; omega), if_neg (by omega)]
  by_cases c : 12 < k ∨ 16383 < (a : Int)
  · rw [if_pos c]
  · rw [if_neg c, hpp, hsp, if_pos hbig]
theorem size_F (k : Nat) (hk : 1 ≤ k) (hk5 : k ≤ 5) (n : Int) (hn0 : 0 ≤ n) (hn1 : n ≤ 2000000000) :
    readF (sizeL k n) = if 1073741823 < nearI (n * 65536) (10 ^ k) then (0, 0, 2) else (2, nearI (n * 65536) (10 ^ k), 0) := by
  have hb : basedF (sizeL k n) = none := by
    unfold sizeL
    have hd : ∀ a : Nat, ∀ B, digL (decL a ++ 46 :: B) = decL a := fun a B => takeWh isDig 46 _ (by decide) _ (decL_dig a)
    unfold basedF
    rw [hd, if_pos ?_]
    right; right; right; right; right; right
    rw [List.getElem?_append_right (Nat.le_refl _), Nat.sub_self]
    simp
  have hh := head_dec (n / 10 ^ k).toNat (46 :: padL k (decL (n % 10 ^ k).toNat))
  have hF : readF (sizeL k n) = readS (sizeL k n) 0 false := by
    unfold readF
    rw [hb]
    simp only
    rw [if_neg (show ¬ (sizeL k n).head? = some 43 from hh.1), if_neg (show ¬ (sizeL k n).head? = some 45 from hh.2)]
  rw [hF]
  have hy := nearI_le (n * 65536) (10 ^ k) (by omega) (pow_18 k (by omega)).1
  by_cases c : 1073741823 < nearI (n * 65536) (10 ^ k)
  · rw [if_pos c, size_big k hk hk5 n hn0 hn1 c]
  · rw [if_neg c]
    exact size_read k hk hk5 _ n hy.1 (by omega) hn0 rfl [] false
theorem nearF_rng (k : Nat) (hk5 : k ≤ 5) (v : Int) (h0 : 0 ≤ v) (h1 : v ≤ 1073741823) : 0 ≤ nearF k v ∧ nearF k v ≤ 2000000000 := by
  have hp : (0 : Int) ≤ 10 ^ k := Int.le_of_lt (Int.pow_pos (by decide))
  have hp5 : (10 : Int) ^ k ≤ 100000 := by
    have : (10 : Nat) ^ k ≤ 10 ^ 5 := Nat.pow_le_pow_right (by decide) hk5
    have e : ((10 ^ k : Nat) : Int) = (10 : Int) ^ k := by simp
    omega
  have m0 : 0 ≤ v * 10 ^ k := Int.mul_nonneg h0 hp
  have m1 : v * 10 ^ k ≤ 107374182300000 := Int.le_trans (Int.mul_le_mul_of_nonneg_left hp5 h0) (by omega)
  unfold nearF nearI
  split <;> omega
/-- The reference's Fix of what is not below 0. -/
theorem fixN (v : Int) (h : 0 ≤ v) : fixL v = sizeL (kF v) (nearF (kF v) v) := by
  unfold fixL
  rw [if_neg (by omega), show ((v.natAbs : Nat) : Int) = v by omega]
  rfl
set_option maxRecDepth 100000 in
set_option maxHeartbeats 1000000 in
theorem may3_any (v : Int) (w : World) : Calls Try.prog 27 #[.int .i64 v] w fun e w' => e = .returned (.bool (decide (-1073741823 ≤ v) && decide (v ≤ 1073741823))) ∧ w = w' := by
  by_cases a1 : -1073741823 ≤ v
  all_goals by_cases a2 : v ≤ 1073741823
  all_goals
    go_enter Try.func27, Try.ntmps27
    go_wp2
    go_ret
    simp [a1, a2]
set_option maxRecDepth 100000 in
set_option maxHeartbeats 2000000 in
theorem rfixN_any (v : Int) (h0 : 0 ≤ v) (h1 : v ≤ 1073741823) (w : World) :
    Calls Try.prog 39 #[.int .i64 v] w fun r w' => r = .returned (.string (bytesB (fixL v))) ∧ Chg NoB w w' := by
  rw [fixN v h0]
  have HMY := hid' (fun w => by have := may3_any v w; rwa [decide_eq_true (show -1073741823 ≤ v by omega), decide_eq_true h1] at this : ∀ w, Calls Try.prog 27 #[.int .i64 v] w fun e w' => e = .returned (.bool true) ∧ w = w')
  have HKR := hid' (kF_rng v)
  have HKO := hid' (kF_ok v h0 h1)
  have HKN := hid' (kF_no v)
  have step : ∀ k : Nat, 1 ≤ k → k ≤ 5 → (∀ w, Calls Try.prog 64 #[.int .i64 k] w fun e w' => e = .returned (.int .i64 (10 ^ k)) ∧ w = w') ∧
      (∀ w, Calls Try.prog 63 #[.int .i64 v, .int .i64 (10 ^ k), .int .i64 65536] w fun e w' => e = .returned (.tuple #[.int .i64 (nearF k v), .bool true]) ∧ Chg NoB w w') ∧
      (∀ w, Calls Try.prog 65 #[.int .i64 (nearF k v), .int .i64 k] w fun e w' => e = .returned (.string (bytesB (sizeL k (nearF k v)))) ∧ Chg NoB w w') := fun k hk hk5 => by
    have hn := nearF_rng k hk5 v h0 h1
    have e3 : ((10 ^ k : Nat) : Int) = (10 : Int) ^ k := by simp
    have hp5 : (10 : Nat) ^ k ≤ 10 ^ 5 := Nat.pow_le_pow_right (by decide) hk5
    refine ⟨fun w => rten_any k (by omega) w, fun w => ?_, fun w => ?_⟩
    · have hm : v.toNat * 10 ^ k ≤ 1073741823 * 10 ^ 5 := Nat.mul_le_mul (by omega) hp5
      have := muldiv_any v.toNat (10 ^ k) 65536 (by omega) (by omega) (by omega) (by omega) (by omega) w
      rw [show ((v.toNat * 10 ^ k : Nat) : Int) = v * 10 ^ k by rw [Int.natCast_mul, e3, show ((v.toNat : Nat) : Int) = v by omega], e3, show ((v.toNat : Nat) : Int) = v by omega] at this
      exact this
    · have := rplaces_any (nearF k v).toNat k (by omega) hk (by omega) w
      rwa [show (((nearF k v).toNat : Nat) : Int) = nearF k v by omega] at this
  have HST := hid' step
  clear step
  go_enter Try.func39, Try.ntmps39
  go_wp2_with fail
  refine (HMY.out _).mono ?_
  rintro e w1 ⟨rfl, rfl⟩
  go_wp2_with fail
  go_loopw [3] (fun cv wr => ∃ k : Nat, 1 ≤ k ∧ k ≤ kF v ∧ cv = .int .i64 k ∧ Chg NoB w wr) (fun cv _ => 6 - (intOf cv).toNat)
  case atStart => exact ⟨1, Nat.le_refl _, HKR.out.1, rfl, Chg.refl _ _⟩
  case round =>
    obtain ⟨k, hk1, hk2, rfl, X⟩ := hrel
    have k5 : k ≤ 5 := by have := HKR.out; omega
    obtain ⟨t1, t2, t3⟩ := HST.out k hk1 k5
    by_cases c : k < 5
    · have c' : (k : Int) < 5 := by omega
      have hn := nearF_rng k k5 v h0 h1
      have hrd := fun w => rread6_any (bytesB (sizeL k (nearF k v))) (by
        have hl : (sizeL k (nearF k v)).length ≤ 100 := by
          unfold sizeL
          have q0 : 0 ≤ nearF k v / 10 ^ k := Int.ediv_nonneg hn.1 (Int.le_of_lt (Int.pow_pos (by decide)))
          have q1 : nearF k v / 10 ^ k ≤ nearF k v := Int.ediv_le_self _ hn.1
          have l1 := decL_size (nearF k v / 10 ^ k).toNat (by omega)
          have r0 : 0 ≤ nearF k v % 10 ^ k := Int.emod_nonneg _ (by have := (pow_18 k (by omega)).1; omega)
          have r1 : nearF k v % 10 ^ k < 10 ^ k := Int.emod_lt_of_pos _ (Int.pow_pos (by decide))
          have l2 := decL_size (nearF k v % 10 ^ k).toNat (by
            have : (10 : Nat) ^ k ≤ 10 ^ 5 := Nat.pow_le_pow_right (by decide) k5
            have e : ((10 ^ k : Nat) : Int) = (10 : Int) ^ k := by simp
            omega)
          unfold padL
          simp only [List.length_append, List.length_cons, List.length_replicate]
          omega
        show (sizeL k (nearF k v)).toArray.size ≤ _
        simp; omega) w
      rw [arr_lst, size_F k hk1 k5 (nearF k v) hn.1 hn.2] at hrd
      have hok : okF k v = (nearI (nearF k v * 65536) (10 ^ k) == v) := rfl
      have HT1 := hid' t1
      have HT2 := hid' t2
      have HT3 := hid' t3
      have HRD0 := hid' hrd
      have HLT := hid' (show okF k v = false → k < kF v from fun e => by
        apply Classical.byContradiction
        intro h
        obtain rfl : k = kF v := by omega
        rw [HKO.out] at e; exact absurd e (by decide))
      have HEQ := hid' (show okF k v = true → k = kF v from fun e => by
        apply Classical.byContradiction
        intro h
        rw [HKN.out k hk1 (by omega)] at e; exact absurd e (by decide))
      generalize nearI (nearF k v * 65536) (10 ^ k) = y at *
      clear t1 t2 t3 hrd
      generalize hN : nearF k v = N at *
      generalize (10 : Int) ^ k = T at *
      generalize hSZ : bytesB (sizeL k N) = SZ at *
      clear hn
      by_cases big : 1073741823 < y
      · have HRD := hid' HRD0.out
        simp only [if_pos big] at HRD
        have hf : okF k v = false := by rw [hok]; simp; omega
        have hlt := HLT.out hf
        clear HRD0 HLT HEQ hok
        go_wp2_with fail
        refine (HT1.out _).mono ?_
        rintro e w2 ⟨rfl, rfl⟩
        go_wp2_with fail
        refine (HT2.out _).mono ?_
        rintro e w3 ⟨rfl, X3⟩
        go_wp2_with fail
        refine (HT3.out _).mono ?_
        rintro e w4 ⟨rfl, X4⟩
        go_wp2_with fail
        refine (HRD.out _).mono ?_
        rintro e w5 ⟨rfl, X5⟩
        go_wp2_with fail
        go_roundw
        case rel => exact ⟨k + 1, by omega, by omega, by go_num, ((X.trans X3).trans X4).trans X5⟩
        case measure => simp [intOf]; omega
      · have HRD := hid' HRD0.out
        simp only [if_neg big] at HRD
        by_cases cy : y = v
        · have cy' : (y == v) = true := by simpa using cy
          have heq := HEQ.out (by rw [hok]; exact cy')
          have HQ := hid' (show bytesB (sizeL (kF v) (nearF (kF v) v)) = SZ by rw [← heq, hN, hSZ])
          clear HRD0 HLT HEQ hok heq hN hSZ cy
          go_wp2_with fail
          refine (HT1.out _).mono ?_
          rintro e w2 ⟨rfl, rfl⟩
          go_wp2_with fail
          refine (HT2.out _).mono ?_
          rintro e w3 ⟨rfl, X3⟩
          go_wp2_with fail
          refine (HT3.out _).mono ?_
          rintro e w4 ⟨rfl, X4⟩
          go_wp2_with fail
          refine (HRD.out _).mono ?_
          rintro e w5 ⟨rfl, X5⟩
          go_wp2_with fail
          go_ret
          exact ⟨by rw [HQ.out]; rfl, ((X.trans X3).trans X4).trans X5⟩
        · have cy' : (y == v) = false := by simpa using cy
          have hlt := HLT.out (by rw [hok]; exact cy')
          clear HRD0 HLT HEQ hok cy
          go_wp2_with fail
          refine (HT1.out _).mono ?_
          rintro e w2 ⟨rfl, rfl⟩
          go_wp2_with fail
          refine (HT2.out _).mono ?_
          rintro e w3 ⟨rfl, X3⟩
          go_wp2_with fail
          refine (HT3.out _).mono ?_
          rintro e w4 ⟨rfl, X4⟩
          go_wp2_with fail
          refine (HRD.out _).mono ?_
          rintro e w5 ⟨rfl, X5⟩
          go_wp2_with fail
          go_roundw
          case rel => exact ⟨k + 1, by omega, by omega, by go_num, ((X.trans X3).trans X4).trans X5⟩
          case measure => simp [intOf]; omega
    · obtain rfl : k = 5 := by omega
      have hk : kF v = 5 := by have := HKR.out; omega
      have HT1 := hid' t1
      have HT2 := hid' t2
      have HT3 := hid' t3
      have HQ := hid' hk
      clear t1 t2 t3 hk hk2
      generalize hSZ : bytesB (sizeL 5 (nearF 5 v)) = SZ at *
      have HQ2 := hid' hSZ
      clear hSZ
      generalize hN : nearF 5 v = N at *
      rw [show ((5 : Nat) : Int) = 5 from rfl] at HT1 HT3
      generalize hT : (10 : Int) ^ 5 = T at *
      have HN := hid' hN
      clear hN hT
      go_wp2_with fail
      refine (HT1.out _).mono ?_
      rintro e w2 ⟨rfl, rfl⟩
      go_wp2_with fail
      refine (HT2.out _).mono ?_
      rintro e w3 ⟨rfl, X3⟩
      go_wp2_with fail
      refine (HT3.out _).mono ?_
      rintro e w4 ⟨rfl, X4⟩
      go_wp2_with fail
      go_ret
      exact ⟨by rw [HQ.out, HN.out, HQ2.out]; rfl, (X.trans X3).trans X4⟩
set_option maxRecDepth 100000 in
set_option maxHeartbeats 2000000 in
theorem rfix_any (v : Int) (h0 : -1073741823 ≤ v) (h1 : v ≤ 1073741823) (w : World) :
    Calls Try.prog 39 #[.int .i64 v] w fun r w' => r = .returned (.string (bytesB (fixL v))) ∧ Chg NoB w w' := by
  by_cases c : 0 ≤ v
  · exact rfixN_any v c h1 w
  have c' : v < 0 := by omega
  have HMY := hid' (fun w => by have := may3_any v w; rwa [decide_eq_true h0, decide_eq_true (show v ≤ 1073741823 by omega)] at this : ∀ w, Calls Try.prog 27 #[.int .i64 v] w fun e w' => e = .returned (.bool true) ∧ w = w')
  have HN := hid' (fun w => rfixN_any (-v) (by omega) (by omega) w)
  have hP : bytesB (fixL v) = ⟨#[45]⟩ ++ bytesB (fixL (-v)) := by
    apply lst_inj; rw [app_lst, one_lst, arr_lst, arr_lst]
    unfold fixL
    rw [if_pos c', if_neg (by omega), Int.natAbs_neg]
    rfl
  have hl : (bytesB (fixL (-v))).size ≤ 100 := by
    show (fixL (-v)).toArray.size ≤ 100
    have := fix_len (-v) (by omega) (by omega)
    simp; omega
  have hS2 : ¬ (9223372036854775807 < (⟨#[45]⟩ : ByteArray).size + (bytesB (fixL (-v))).size) := by
    have : (⟨#[45]⟩ : ByteArray).size = 1 := rfl
    omega
  rw [hP]
  generalize bytesB (fixL (-v)) = Y at *
  clear hP c
  go_enter Try.func39, Try.ntmps39
  go_wp2_with fail
  refine (HMY.out _).mono ?_
  rintro e w1 ⟨rfl, rfl⟩
  go_wp2_with fail
  refine (HN.out _).mono ?_
  rintro e w1 ⟨rfl, X⟩
  go_wp2_with fail
  go_ret
  exact ⟨rfl, X⟩
end Go.Proofs.Ytgahapnjlngebaa
/- Walk: layer 7's reference: short, one, Paren. -/
namespace Go.Proofs.Ytgahapnjlngebaa
open Go.RowKit

def shortI (c : Int) : Int := if c = 8 then 98 else if c = 9 then 116 else if c = 10 then 110 else if c = 12 then 102 else if c = 13 then 114 else 0
set_option maxRecDepth 100000 in
theorem rshort_any (c : Int) (w : World) : Calls Try.prog 83 #[.int .u8 c] w fun e w' => e = .returned (.int .u8 (shortI c)) ∧ w = w' := by
  have hr : shortI c = if c = 8 then 98 else if c = 9 then 116 else if c = 10 then 110 else if c = 12 then 102 else if c = 13 then 114 else 0 := rfl
  have HR := hid' hr
  clear hr
  go_enter Try.func83, Try.ntmps83
  go_wp2
  all_goals
    go_ret
    rw [HR.out]
    refine ⟨?_, rfl⟩
    simp_all
/-- A slice of bytes just made, as a string. -/
theorem str_new (l : List UInt8) (n : Nat) (hn : l.length = n) (W : World) (g : Nat) (h : ∀ i (hi : i < l.length), W.cell? ⟨g, i, none⟩ = some (u8V l[i])) :
    (convert 35 9 (.slice (some ⟨g, 0, none⟩) n n)).run Try.prog W = .ok (.string (bytesB l)) W := by
  subst hn
  simp only [convert, Sem.run_bind, run_underlying nt_underStr, run_underlying nt_under, run_underlying nt_underByte, Result.andThen_ok]
  exact bytesToString_T Try.prog W ⟨g, 0, none⟩ l l.length (fun i hi => by rw [add_z]; exact h i hi)
theorem two_new (w : World) (x y : UInt8) (X Y : Int) (hx : X = x.toNat) (hy : Y = y.toNat) :
    (convert 35 9 (.slice (some ⟨w.heap.size, 0, none⟩) 2 2)).run Try.prog (w.alloc (.cells #[.int .u8 X, .int .u8 Y] 5)) = .ok (.string (bytesB [x, y])) (w.alloc (.cells #[.int .u8 X, .int .u8 Y] 5)) := by
  subst hx hy
  have hb := blk_new w (.cells #[.int .u8 x.toNat, .int .u8 y.toNat] 5)
  exact str_new [x, y] 2 rfl _ w.heap.size (fun i hi => by
    rw [cells_of hb]
    rcases i with _ | _ | i
    · rfl
    · rfl
    · simp at hi; omega)
theorem one_new (w : World) (x : UInt8) (X : Int) (hx : X = x.toNat) :
    (convert 35 9 (.slice (some ⟨w.heap.size, 0, none⟩) 1 1)).run Try.prog (w.alloc (.cells #[.int .u8 X] 5)) = .ok (.string (bytesB [x])) (w.alloc (.cells #[.int .u8 X] 5)) := by
  subst hx
  have hb := blk_new w (.cells #[.int .u8 x.toNat] 5)
  exact str_new [x] 1 rfl _ w.heap.size (fun i hi => by
    rw [cells_of hb]
    rcases i with _ | i
    · rfl
    · simp at hi)
theorem four_new (w : World) (x y z u : UInt8) (X Y Z U : Int) (hx : X = x.toNat) (hy : Y = y.toNat) (hz : Z = z.toNat) (hu : U = u.toNat) :
    (convert 35 9 (.slice (some ⟨w.heap.size, 0, none⟩) 4 4)).run Try.prog (w.alloc (.cells #[.int .u8 X, .int .u8 Y, .int .u8 Z, .int .u8 U] 5)) = .ok (.string (bytesB [x, y, z, u])) (w.alloc (.cells #[.int .u8 X, .int .u8 Y, .int .u8 Z, .int .u8 U] 5)) := by
  subst hx hy hz hu
  have hb := blk_new w (.cells #[.int .u8 x.toNat, .int .u8 y.toNat, .int .u8 z.toNat, .int .u8 u.toNat] 5)
  exact str_new [x, y, z, u] 4 rfl _ w.heap.size (fun i hi => by
    rw [cells_of hb]
    rcases i with _ | _ | _ | _ | i
    · rfl
    · rfl
    · rfl
    · rfl
    · simp at hi; omega)
set_option maxRecDepth 100000 in
set_option maxHeartbeats 1000000 in
theorem rone_any (c : UInt8) (w : World) : Calls Try.prog 66 #[.int .u8 c.toNat] w fun e w' => e = .returned (.string (bytesB (oneQ c))) ∧ Chg NoB w w' := by
  have hs := fun w => rshort_any c.toNat w
  have f : ∀ (n : UInt8) (m : Int), m = n.toNat → ¬ c = n → ¬ (c.toNat : Int) = m := fun n m hm h e => h (UInt8.toNat_inj.1 (by omega))
  have fb : ∀ (n : UInt8) (m : Int), m = n.toNat → ¬ c = n → ((c.toNat : Int) == m) = false := fun n m hm h => by simpa using f n m hm h
  have hc0 : (0 : Int) ≤ c.toNat := by omega
  have hc1 : (c.toNat : Int) < 256 := by have := c.toNat_lt; omega
  by_cases h1 : c = 40 ∨ c = 41 ∨ c = 92
  · have e1 : oneQ c = [92, c] := by unfold oneQ; rw [if_pos h1]
    rw [e1]
    have hcv := two_new w 92 c 92 c.toNat rfl rfl
    have hx : (((c.toNat : Int) == 40) = true) ∨ (((c.toNat : Int) == 40) = false ∧ ((c.toNat : Int) == 41) = true) ∨ (((c.toNat : Int) == 40) = false ∧ ((c.toNat : Int) == 41) = false ∧ ((c.toNat : Int) == 92) = true) := by
      rcases h1 with rfl | rfl | rfl
      · exact .inl rfl
      · exact .inr (.inl ⟨rfl, rfl⟩)
      · exact .inr (.inr ⟨rfl, rfl, rfl⟩)
    clear h1 hs f fb
    generalize (c.toNat : Int) = C at *
    generalize bytesB [92, c] = B at *
    rcases hx with g1 | ⟨g1, g2⟩ | ⟨g1, g2, g3⟩
    all_goals
      go_enter Try.func66, Try.ntmps66
      go_wp2_with fail
      go_ret
      exact ⟨rfl, (Chg.refl _ _).alloc _⟩
  have h1' := h1
  simp only [not_or] at h1'
  have g1 := fb 40 40 rfl h1'.1
  have g2 := fb 41 41 rfl h1'.2.1
  have g3 := fb 92 92 rfl h1'.2.2
  by_cases h2 : c = 8 ∨ c = 9 ∨ c = 10 ∨ c = 12 ∨ c = 13
  · obtain ⟨z, hz⟩ : ∃ z : UInt8, shortI c.toNat = (z.toNat : Int) ∧ oneQ c = [92, z] ∧ ((z.toNat : Int) != 0) = true := by
      rcases h2 with rfl | rfl | rfl | rfl | rfl
      · exact ⟨98, rfl, rfl, rfl⟩
      · exact ⟨116, rfl, rfl, rfl⟩
      · exact ⟨110, rfl, rfl, rfl⟩
      · exact ⟨102, rfl, rfl, rfl⟩
      · exact ⟨114, rfl, rfl, rfl⟩
    obtain ⟨hz1, hz2, hz3⟩ := hz
    rw [hz1] at hs
    rw [hz2]
    have hcv := two_new w 92 z 92 z.toNat rfl rfl
    have HS := hid' hs
    clear h1 h2 hs f fb h1' hz1 hz2
    generalize (c.toNat : Int) = C at *
    generalize (z.toNat : Int) = Z at *
    generalize bytesB [92, z] = B at *
    go_enter Try.func66, Try.ntmps66
    go_wp2_with (go_at_call 83; refine (HS.out _).mono ?_; rintro e w2 ⟨rfl, rfl⟩)
    go_ret
    exact ⟨rfl, (Chg.refl _ _).alloc _⟩
  have h2' := h2
  simp only [not_or] at h2'
  have hz1 : shortI c.toNat = 0 := by
    unfold shortI
    rw [if_neg (f 8 8 rfl h2'.1), if_neg (f 9 9 rfl h2'.2.1), if_neg (f 10 10 rfl h2'.2.2.1), if_neg (f 12 12 rfl h2'.2.2.2.1), if_neg (f 13 13 rfl h2'.2.2.2.2)]
  rw [hz1] at hs
  have HS := hid' hs
  have hq : oneQ c = if c < 32 ∨ 126 < c then [92, 48 + c / 64, 48 + c / 8 % 8, 48 + c % 8] else [c] := by
    unfold oneQ
    rw [if_neg h1, if_neg h2'.1, if_neg h2'.2.1, if_neg h2'.2.2.1, if_neg h2'.2.2.2.1, if_neg h2'.2.2.2.2]
  rw [hq]
  by_cases h3 : c < 32 ∨ 126 < c
  · rw [if_pos h3]
    have hx : (decide ((c.toNat : Int) < 32) = true) ∨ (decide ((c.toNat : Int) < 32) = false ∧ decide (126 < (c.toNat : Int)) = true) := by
      rcases h3 with h | h
      · left
        have := UInt8.lt_iff_toNat_lt.1 h; have e : (32 : UInt8).toNat = 32 := rfl
        simp; omega
      · have := UInt8.lt_iff_toNat_lt.1 h; have e : (126 : UInt8).toNat = 126 := rfl
        by_cases k : (c.toNat : Int) < 32
        · left; simpa using k
        · right; simp at k ⊢; omega
    obtain ⟨o1, o2, o3⟩ := oct_val c
    have hcv := four_new w 92 (48 + c / 64) (48 + c / 8 % 8) (48 + c % 8) 92 _ _ _ rfl o1.symm o2.symm o3.symm
    clear h1 h2 hs f fb h1' h2' hz1 hq h3 o1 o2 o3
    generalize bytesB [92, 48 + c / 64, 48 + c / 8 % 8, 48 + c % 8] = B at *
    generalize (c.toNat : Int) = C at *
    rcases hx with d1 | ⟨d1, d2⟩
    all_goals
      go_enter Try.func66, Try.ntmps66
      go_wp2_with (go_at_call 83; refine (HS.out _).mono ?_; rintro e w2 ⟨rfl, rfl⟩)
      go_ret
      exact ⟨rfl, (Chg.refl _ _).alloc _⟩
  · rw [if_neg h3]
    simp only [not_or] at h3
    have d1 : decide ((c.toNat : Int) < 32) = false := by
      have e : (32 : UInt8).toNat = 32 := rfl
      have : ¬ c.toNat < (32 : UInt8).toNat := fun h => h3.1 (UInt8.lt_iff_toNat_lt.2 h)
      simp; omega
    have d2 : decide (126 < (c.toNat : Int)) = false := by
      have e : (126 : UInt8).toNat = 126 := rfl
      have : ¬ (126 : UInt8).toNat < c.toNat := fun h => h3.2 (UInt8.lt_iff_toNat_lt.2 h)
      simp; omega
    have hcv := one_new w c c.toNat rfl
    clear h1 h2 hs f fb h1' h2' hz1 hq h3
    generalize bytesB [c] = B at *
    generalize (c.toNat : Int) = C at *
    go_enter Try.func66, Try.ntmps66
    go_wp2_with (go_at_call 83; refine (HS.out _).mono ?_; rintro e w2 ⟨rfl, rfl⟩)
    go_ret
    exact ⟨rfl, (Chg.refl _ _).alloc _⟩
set_option maxRecDepth 100000 in
set_option maxHeartbeats 1000000 in
theorem rparen_any (s : ByteArray) (hs : s.size ≤ 1000000) (w : World) :
    Calls Try.prog 40 #[.string s] w fun r w' => r = .returned (.string (bytesB (parenL s.toList))) ∧ Chg NoB w w' := by
  have hsi : (s.size : Int) ≤ 1000000 := by omega
  go_enter Try.func40, Try.ntmps40
  go_wp2_with fail
  go_loopw [3, 4] (fun ov iv wr => ∃ (i : Nat) (D : ByteArray), i ≤ s.size ∧ iv = .int .i64 i ∧ ov = .string D ∧ D.toList = 40 :: quoteQ (s.toList.take i) ∧ Chg NoB w wr) (fun _ iv _ => s.size - (intOf iv).toNat)
  case atStart => exact ⟨0, ⟨#[40]⟩, Nat.zero_le _, rfl, rfl, by rw [one_lst]; rfl, Chg.refl _ _⟩
  case round =>
    obtain ⟨i, D, hi, rfl, rfl, hD, X⟩ := hrel
    have hl := quote_len (s.toList.take i)
    have hDs : D.size ≤ 4000001 := by
      rw [← size_lst, hD, List.length_cons]
      have := List.length_take (i := i) (l := s.toList)
      rw [size_lst] at this
      omega
    by_cases hlt : i < s.size
    · have hc : s.toList[i]? = some s[i] := lst_get s i hlt
      have hlt' : (i : Int) < s.size := by omega
      have h0i : (0 : Int) ≤ i := by omega
      have HC := hid' (fun w => rone_any s[i] w)
      have hol := oneQ_len s[i]
      have hOs : (bytesB (oneQ s[i])).size ≤ 4 := by show (oneQ s[i]).toArray.size ≤ 4; simpa using hol
      have HT := hid' (show (D ++ bytesB (oneQ s[i])).toList = 40 :: quoteQ (s.toList.take (i + 1)) by
        rw [app_lst, hD, List.take_add_one, hc, Option.toList_some, quote_snoc]
        exact congrArg (fun t => 40 :: quoteQ (s.toList.take i) ++ t) (bytesB_lst (oneQ s[i])))
      have hS : ¬ (9223372036854775807 < D.size + (bytesB (oneQ s[i])).size) := by omega
      generalize bytesB (oneQ s[i]) = Y at *
      clear hD hc hl hol
      go_wp2_with (go_at_call 66; refine (HC.out _).mono ?_; rintro e w2 ⟨rfl, X2⟩)
      go_roundw
      case rel => exact ⟨i + 1, _, by omega, by go_num, rfl, HT.out, X.trans X2⟩
      case measure => simp [intOf]; omega
    · obtain rfl : i = s.size := by omega
      rw [List.take_of_length_le (by rw [size_lst]; exact Nat.le_refl _)] at hD
      have HT := hid' (show bytesB (parenL s.toList) = D ++ ⟨#[41]⟩ by apply lst_inj; rw [app_lst, one_lst, hD]; exact (bytesB_lst _))
      have hS : ¬ (9223372036854775807 < D.size + (⟨#[41]⟩ : ByteArray).size) := by
        have : (⟨#[41]⟩ : ByteArray).size = 1 := rfl
        omega
      clear hD hl
      go_wp2_with fail
      go_ret
      exact ⟨by rw [HT.out]; rfl, X⟩
end Go.Proofs.Ytgahapnjlngebaa
