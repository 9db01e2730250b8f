/- Walk: char.Kind, Value, Regular. -/
import Derived.Test.YthkhdbinkcgpgaaProg
import Derived.Test.YthkhdbinkcgpgaaZHeapa
import Derived.Lib.Hide
namespace Go.Proofs.Ythkhdbinkcgpgaa
open Go.RowKit

theorem hid' {p : Prop} (h : p) : Hid p := h
/-- The kind of a byte. -/
def kindI (c : Int) : Int :=
  if c = 0 ∨ c = 9 ∨ c = 10 ∨ c = 12 ∨ c = 13 ∨ c = 32 then 1
  else if c = 40 ∨ c = 41 ∨ c = 60 ∨ c = 62 ∨ c = 91 ∨ c = 93 ∨ c = 123 ∨ c = 125 ∨ c = 47 ∨ c = 37 then 2 else 3
def valueI (c : Int) : Int :=
  if 48 ≤ c ∧ c ≤ 57 then c - 48 else if 97 ≤ c ∧ c ≤ 122 then c - 87 else if 65 ≤ c ∧ c ≤ 90 then c - 55 else -1
def isReg (c : UInt8) : Bool := kindI c.toNat == 3
def isBlank (c : UInt8) : Bool := kindI c.toNat == 1
/-- How many regular bytes stand first. -/
def regL (l : List UInt8) : Nat := (l.takeWhile isReg).length

theorem size_lst (s : ByteArray) : s.toList.length = s.size := by rw [ByteArray.toList_eq]; rfl
theorem drop_at (s : ByteArray) (j : Nat) (h : j < s.size) : s.toList.drop j = s[j] :: s.toList.drop (j + 1) := by
  rw [List.drop_eq_getElem_cons (by rw [size_lst]; exact h)]
  congr 1
  simp only [ByteArray.toList_eq]
  rfl
theorem drop_end (s : ByteArray) (j : Nat) (h : s.size ≤ j) : s.toList.drop j = [] := List.drop_eq_nil_of_le (by rw [size_lst]; exact h)

theorem regL_at (s : ByteArray) (j : Nat) (h : j < s.size) : regL (s.toList.drop j) = if kindI s[j].toNat = 3 then regL (s.toList.drop (j + 1)) + 1 else 0 := by
  rw [drop_at s j h]
  unfold regL
  rw [List.takeWhile_cons]
  unfold isReg
  by_cases hk : kindI s[j].toNat = 3 <;> simp [hk]
theorem regL_end (s : ByteArray) (j : Nat) (h : s.size ≤ j) : regL (s.toList.drop j) = 0 := by rw [drop_end s j h]; rfl
theorem regL_le (l : List UInt8) : regL l ≤ l.length := (List.takeWhile_sublist _).length_le

end Go.Proofs.Ythkhdbinkcgpgaa
