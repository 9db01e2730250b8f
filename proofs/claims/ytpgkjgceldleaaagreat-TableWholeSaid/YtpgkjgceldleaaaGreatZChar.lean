/- Walk: char.Kind, Value, Regular. -/
import Derived.Test.YtpgkjgceldleaaaGreatProg
import Derived.Test.YtpgkjgceldleaaaGreatZHeapa
import Derived.Lib.Hide
namespace Go.Proofs.YtpgkjgceldleaaaGreat
open Go.RowKit

theorem hid' {p : Prop} (h : p) : Hid p := h
/-- The kind of a byte. -/
def kindI (c : Int) : Int :=
  if c = 0 ∨ c = 9 ∨ c = 10 ∨ c = 12 ∨ c = 13 ∨ c = 32 then 1
  else if c = 40 ∨ c = 41 ∨ c = 60 ∨ c = 62 ∨ c = 91 ∨ c = 93 ∨ c = 123 ∨ c = 125 ∨ c = 47 ∨ c = 37 then 2 else 3
def valueI (c : Int) : Int :=
  if 48 ≤ c ∧ c ≤ 57 then c - 48 else if 97 ≤ c ∧ c ≤ 122 then c - 87 else if 65 ≤ c ∧ c ≤ 90 then c - 55 else -1
def isReg (c : UInt8) : Bool := kindI c.toNat == 3
def isBlank (c : UInt8) : Bool := kindI c.toNat == 1
/-- How many regular bytes stand first. -/
def regL (l : List UInt8) : Nat := (l.takeWhile isReg).length

theorem size_lst (s : ByteArray) : s.toList.length = s.size := by rw [ByteArray.toList_eq]; rfl
theorem drop_at (s : ByteArray) (j : Nat) (h : j < s.size) : s.toList.drop j = s[j] :: s.toList.drop (j + 1) := by
  rw [List.drop_eq_getElem_cons (by rw [size_lst]; exact h)]
  congr 1
  simp only [ByteArray.toList_eq]
  rfl
theorem drop_end (s : ByteArray) (j : Nat) (h : s.size ≤ j) : s.toList.drop j = [] := List.drop_eq_nil_of_le (by rw [size_lst]; exact h)

set_option maxRecDepth 100000 in
set_option maxHeartbeats 2000000 in
theorem ckind_any (c : Int) (w : World) : Calls Tryz.prog 174 #[.int .u8 c] w fun e w' => e = .returned (.int .i64 (kindI c)) ∧ w = w' := by
  have hr : kindI c = if c = 0 ∨ c = 9 ∨ c = 10 ∨ c = 12 ∨ c = 13 ∨ c = 32 then 1
    else if c = 40 ∨ c = 41 ∨ c = 60 ∨ c = 62 ∨ c = 91 ∨ c = 93 ∨ c = 123 ∨ c = 125 ∨ c = 47 ∨ c = 37 then 2 else 3 := rfl
  have HR := hid' hr
  clear hr
  go_enter Tryz.func174, Tryz.ntmps174
  go_wp2
  all_goals
    go_ret
    rw [HR.out]
    refine ⟨?_, rfl⟩
    simp_all
set_option maxRecDepth 100000 in
set_option maxHeartbeats 2000000 in
theorem value_any (c : Int) (h0 : 0 ≤ c) (h1 : c < 256) (w : World) : Calls Tryz.prog 198 #[.int .u8 c] w fun e w' => e = .returned (.int .i64 (valueI c)) ∧ w = w' := by
  have hr : valueI c = if 48 ≤ c ∧ c ≤ 57 then c - 48 else if 97 ≤ c ∧ c ≤ 122 then c - 87 else if 65 ≤ c ∧ c ≤ 90 then c - 55 else -1 := rfl
  have HR := hid' hr
  clear hr
  by_cases a1 : 48 ≤ c
  all_goals by_cases a2 : c ≤ 57
  all_goals by_cases a3 : 97 ≤ c
  all_goals by_cases a4 : c ≤ 122
  all_goals by_cases a5 : 65 ≤ c
  all_goals by_cases a6 : c ≤ 90
  all_goals first | (exfalso; omega) | skip
  all_goals
    go_enter Tryz.func198, Tryz.ntmps198
    go_wp2
    go_ret
    rw [HR.out]
    refine ⟨congrArg (fun z => Ending.returned (Value.int .i64 z)) ?_, rfl⟩
    split <;> (try split) <;> (try split) <;> omega

theorem regL_at (s : ByteArray) (j : Nat) (h : j < s.size) : regL (s.toList.drop j) = if kindI s[j].toNat = 3 then regL (s.toList.drop (j + 1)) + 1 else 0 := by
  rw [drop_at s j h]
  unfold regL
  rw [List.takeWhile_cons]
  unfold isReg
  by_cases hk : kindI s[j].toNat = 3 <;> simp [hk]
theorem regL_end (s : ByteArray) (j : Nat) (h : s.size ≤ j) : regL (s.toList.drop j) = 0 := by rw [drop_end s j h]; rfl
theorem regL_le (l : List UInt8) : regL l ≤ l.length := (List.takeWhile_sublist _).length_le

set_option maxRecDepth 100000 in
set_option maxHeartbeats 2000000 in
theorem regular_any (s : ByteArray) (a : Nat) (hs : s.size ≤ 1000000) (ha : a ≤ s.size + 2) (w : World) :
    Calls Tryz.prog 119 #[.string s, .int .i64 a] w fun e w' => e = .returned (.int .i64 (regL (s.toList.drop a) : Nat)) ∧ w = w' := by
  by_cases h : s.size ≤ a
  · have h' : (s.size : Int) ≤ a := by omega
    have HE := hid' (regL_end s a h)
    go_enter Tryz.func119, Tryz.ntmps119
    go_wp2_with fail
    go_ret
    rw [HE.out]
    exact ⟨rfl, rfl⟩
  · have h' : (a : Int) < s.size := by omega
    go_enter Tryz.func119, Tryz.ntmps119
    go_wp2_with fail
    go_loop [5] (fun n => ∃ j : Nat, a ≤ j ∧ j ≤ s.size ∧ n = .int .i64 j ∧ regL (s.toList.drop a) = (j - a) + regL (s.toList.drop j)) (fun n => s.size - (intOf n).toNat)
    case atStart => exact ⟨a, Nat.le_refl _, by omega, rfl, by omega⟩
    case round =>
      obtain ⟨j, hj1, hj2, rfl, hj3⟩ := hrel
      have HJ := hid' hj3
      clear hj3
      by_cases hlt : j < s.size
      · have hlt' : (j : Int) < s.size := by omega
        have HS := hid' (regL_at s j hlt)
        by_cases hk : kindI s[j].toNat = 3
        · have hk' : (kindI s[j].toNat == 3) = true := by simpa using hk
          have HK := hid' hk
          clear hk
          go_wp2_with (go_at_call 174; refine (ckind_any _ _).mono ?_; rintro e w' ⟨rfl, rfl⟩)
          go_round
          case rel => exact ⟨j + 1, by omega, by omega, by go_num, by rw [HJ.out, HS.out, if_pos HK.out]; omega⟩
          case measure => simp [intOf]; omega
        · have hk' : (kindI s[j].toNat == 3) = false := by simpa using hk
          have HK := hid' hk
          clear hk
          go_wp2_with (go_at_call 174; refine (ckind_any _ _).mono ?_; rintro e w' ⟨rfl, rfl⟩)
          go_ret
          exact ⟨by rw [HJ.out, HS.out, if_neg HK.out]; go_num, rfl⟩
      · obtain rfl : j = s.size := by omega
        have HS := hid' (regL_end s s.size (Nat.le_refl _))
        go_wp2_with fail
        go_ret
        exact ⟨by rw [HJ.out, HS.out]; go_num, rfl⟩
end Go.Proofs.YtpgkjgceldleaaaGreat
