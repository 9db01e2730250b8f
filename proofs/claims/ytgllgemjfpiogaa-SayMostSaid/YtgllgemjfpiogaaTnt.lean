/- Walk: numtext.decimal, Int. -/
import Derived.Test.YtgllgemjfpiogaaTbt
namespace Go.Proofs.Ytgllgemjfpiogaa
open Go.RowKit

def dgB (n : Nat) : UInt8 := UInt8.ofNat (48 + n)
/-- The decimal digits of a size. -/
def decL (n : Nat) : List UInt8 := if n < 10 then [dgB n] else decL (n / 10) ++ [dgB (n % 10)]
termination_by n
decreasing_by omega
theorem decL_lo (n : Nat) (h : n < 10) : decL n = [dgB n] := by rw [decL, if_pos h]
theorem decL_hi (n : Nat) (h : ¬ n < 10) : decL n = decL (n / 10) ++ [dgB (n % 10)] := by rw [decL, if_neg h]
theorem decL_len (n k : Nat) (h : n < 10 ^ (k + 1)) : (decL n).length ≤ k + 1 := by
  induction k generalizing n with
  | zero => rw [decL_lo n (by simpa using h)]; simp
  | succ k ih =>
    by_cases c : n < 10
    · rw [decL_lo n c]; simp
    · rw [decL_hi n c, List.length_append, List.length_singleton]
      have := ih (n / 10) (by rw [Nat.pow_succ] at h; omega)
      omega
def intL (v : Int) : List UInt8 := if v < 0 then 45 :: decL v.natAbs else decL v.natAbs
theorem nt_under : Try.prog.underlying 22 = some (.slice 5) := by kernel_rfl
theorem nt_underStr : Try.prog.underlying 9 = some .string := by kernel_rfl
theorem nt_underByte : Try.prog.underlying 5 = some (.int .u8) := by kernel_rfl
theorem str_oneN (a : Nat) (x : Int) (hx : x = 48 + (a : Int)) (h1 : a < 10) (W : World) (g : Nat) (h : W.cell? ⟨g, 0, none⟩ = some (.int .u8 x)) :
    (convert 22 9 (.slice (some ⟨g, 0, none⟩) 1 1)).run Try.prog W = .ok (.string ⟨#[dgB a]⟩) W := by
  simp only [convert, Sem.run_bind, run_underlying nt_underStr, run_underlying nt_under, run_underlying nt_underByte, Result.andThen_ok]
  have e : u8V (dgB a) = .int .u8 x := by
    rw [hx]
    simp only [u8V, dgB, UInt8.toNat_ofNat']
    rw [show (48 + a) % 2 ^ 8 = 48 + a by omega]; rfl
  exact bytesToString_T Try.prog W ⟨g, 0, none⟩ [dgB a] 1 (fun i hi => by
    obtain rfl : i = 0 := by simpa using hi
    rw [add_z, h]; simp only [List.getElem_cons_zero, e])
theorem app_lst (s t : ByteArray) : (s ++ t).toList = s.toList ++ t.toList := by
  rw [ByteArray.toList_eq, ByteArray.toList_eq, ByteArray.toList_eq, ByteArray.data_append]; simp
theorem one_lst (x : UInt8) : (⟨#[x]⟩ : ByteArray).toList = [x] := by rw [ByteArray.toList_eq]
theorem arr_lst (l : List UInt8) : (⟨l.toArray⟩ : ByteArray).toList = l := by rw [ByteArray.toList_eq]
theorem lst_inj {s t : ByteArray} (h : s.toList = t.toList) : s = t := by
  rw [ByteArray.toList_eq, ByteArray.toList_eq] at h
  exact ByteArray.ext (Array.toList_inj.1 h)

set_option maxRecDepth 100000 in
set_option maxHeartbeats 400000 in
theorem decimal_any (n : Nat) (hn : n ≤ 100000000000000) (w : World) :
    Calls Try.prog 82 #[.int .u64 n] w fun r w' => r = .returned (.string ⟨(decL n).toArray⟩) ∧ Chg NoB w w' := by
  go_enter Try.func82, Try.ntmps82
  go_wp2_with fail
  go_loopw [0, 3] (fun nv sv wr => ∃ (m : Nat) (S : ByteArray), m ≤ n ∧ nv = .int .u64 m ∧ sv = .string S ∧ decL n = decL m ++ S.toList ∧ Chg NoB w wr) (fun nv _ _ => (intOf nv).toNat)
  case atStart => exact ⟨n, ⟨#[]⟩, Nat.le_refl _, rfl, rfl, by rw [ByteArray.toList_eq]; simp, Chg.refl _ _⟩
  case round =>
    obtain ⟨m, S, hm, rfl, rfl, hD, X⟩ := hrel
    have hS : S.size ≤ 15 := by
      have h1 := decL_len n 14 (by omega)
      rw [hD, List.length_append, size_lst] at h1
      omega
    have hone := str_oneN (m % 10) (48 + (m : Int) % 10) (by omega) (by omega)
    have hm0 : (0 : Int) ≤ m := by omega
    have hml : (m : Int) ≤ 100000000000000 := by omega
    have q0 : 0 ≤ (m : Int) % 10 := by omega
    have q1 : (m : Int) % 10 < 10 := by omega
    have HD := hid' hD
    have HX := hid' X
    clear hD
    by_cases c : m < 10
    · have c' : ((m : Int) / 10 == 0) = true := by simp only [beq_iff_eq]; omega
      have HE := hid' (decL_lo m c)
      have HM := hid' (show m % 10 = m by omega)
      go_wp2_with fail
      go_ret
      refine ⟨congrArg (fun s => Ending.returned (.string s)) (lst_inj ?_), X.alloc _⟩
      refine Eq.trans ?_ (arr_lst _).symm
      rw [app_lst, one_lst, HD.out, HE.out, HM.out]
    · have c' : ((m : Int) / 10 == 0) = false := by simp only [beq_eq_false_iff_ne, ne_eq]; omega
      have HE := hid' (decL_hi m c)
      go_wp2_with fail
      go_roundw
      case rel => exact ⟨m / 10, _, by omega, by first | rfl | go_num, rfl, by rw [HD.out, HE.out, app_lst, one_lst, List.append_assoc], X.alloc _⟩
      case measure => simp [intOf]; omega

set_option maxRecDepth 100000 in
set_option maxHeartbeats 400000 in
theorem nint_any (v : Int) (h0 : -10000000000000 ≤ v) (h1 : v ≤ 10000000000000) (w : World) :
    Calls Try.prog 69 #[.int .i64 v] w fun r w' => r = .returned (.string ⟨(intL v).toArray⟩) ∧ Chg NoB w w' := by
  by_cases c : v < 0
  · have hd := fun w => decimal_any v.natAbs (by omega) w
    have hl := decL_len v.natAbs 14 (by omega)
    have e : -(v + 1) + 1 = (v.natAbs : Int) := by omega
    have HI := hid' (show intL v = 45 :: decL v.natAbs from if_pos c)
    have hz : (⟨(decL v.natAbs).toArray⟩ : ByteArray).size ≤ 15 := hl
    rw [← e] at hd
    have HL := hid' (arr_lst (decL v.natAbs))
    generalize (⟨(decL v.natAbs).toArray⟩ : ByteArray) = S at *
    have HD := hid' hd
    clear hd e
    go_enter Try.func69, Try.ntmps69
    go_wp2_with fail
    refine (HD.out _).mono ?_
    rintro r w1 ⟨rfl, X⟩
    go_wp2_with fail
    go_ret
    refine ⟨congrArg (fun s => Ending.returned (.string s)) (lst_inj ?_), X⟩
    refine Eq.trans ?_ (arr_lst _).symm
    rw [app_lst, one_lst, HI.out, HL.out]; rfl
  · have hd := fun w => decimal_any v.natAbs (by omega) w
    have e : v = (v.natAbs : Int) := by omega
    have HI := hid' (show intL v = decL v.natAbs from if_neg c)
    rw [← e] at hd
    have HD := hid' hd
    have c' : 0 ≤ v := by omega
    clear hd e
    go_enter Try.func69, Try.ntmps69
    go_wp2_with fail
    refine (HD.out _).mono ?_
    rintro r w1 ⟨rfl, X⟩
    go_wp2_with fail
    go_ret
    exact ⟨by rw [HI.out]; rfl, X⟩
end Go.Proofs.Ytgllgemjfpiogaa
