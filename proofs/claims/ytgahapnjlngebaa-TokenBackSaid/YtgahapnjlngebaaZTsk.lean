/- Walk: token.sign, skip, name. -/
import Derived.Test.YtgahapnjlngebaaZChar
import Derived.Deep.LoopGhost
namespace Go.Proofs.Ytgahapnjlngebaa
open Go.RowKit

/-- A word. -/
structure Tok where
  kind : Int
  n : Int
  s : ByteArray
  pos : Int
  deriving DecidableEq
abbrev Tok.val (t : Tok) : Value := .agg #[.int .i64 t.kind, .int .i64 t.n, .string t.s, .int .i64 t.pos]
def Tok.nil : Tok := ⟨0, 0, ⟨#[]⟩, 0⟩

/-- How a kind is written. -/
def signL (k : Int) : List UInt8 :=
  if k = 7 then [123] else if k = 8 then [125] else if k = 9 then [91] else if k = 10 then [93] else if k = 11 then [60, 60] else if k = 12 then [62, 62] else []
abbrev signB (k : Int) : ByteArray := ⟨(signL k).toArray⟩
set_option maxRecDepth 100000 in
theorem sign_any (k : Int) (h0 : -1000000000 ≤ k) (h1 : k ≤ 1000000000) (w : World) : Calls Try.prog 26 #[.int .i64 k] w fun e w' => e = .returned (.string (signB k)) ∧ w = w' := by
  have hr : signL k = if k = 7 then [123] else if k = 8 then [125] else if k = 9 then [91] else if k = 10 then [93] else if k = 11 then [60, 60] else if k = 12 then [62, 62] else [] := rfl
  by_cases c7 : k = 7
  · subst c7
    go_enter Try.func26, Try.ntmps26
    go_wp2
    go_ret
    exact ⟨rfl, rfl⟩
  by_cases c8 : k = 8
  · subst c8
    go_enter Try.func26, Try.ntmps26
    go_wp2
    go_ret
    exact ⟨rfl, rfl⟩
  by_cases c9 : k = 9
  · subst c9
    go_enter Try.func26, Try.ntmps26
    go_wp2
    go_ret
    exact ⟨rfl, rfl⟩
  by_cases c10 : k = 10
  · subst c10
    go_enter Try.func26, Try.ntmps26
    go_wp2
    go_ret
    exact ⟨rfl, rfl⟩
  by_cases c11 : k = 11
  · subst c11
    go_enter Try.func26, Try.ntmps26
    go_wp2
    go_ret
    exact ⟨rfl, rfl⟩
  by_cases c12 : k = 12
  · subst c12
    go_enter Try.func26, Try.ntmps26
    go_wp2
    go_ret
    exact ⟨rfl, rfl⟩
  rw [if_neg c7, if_neg c8, if_neg c9, if_neg c10, if_neg c11, if_neg c12] at hr
  have HR := hid' hr
  have u7 : (k - 7 == 0) = false := by simp; omega
  have u8 : (k - 7 == 1) = false := by simp; omega
  have u9 : (k - 7 == 2) = false := by simp; omega
  have u10 : (k - 7 == 3) = false := by simp; omega
  have u11 : (k - 7 == 4) = false := by simp; omega
  have u12 : (k - 7 == 5) = false := by simp; omega
  clear hr c7 c8 c9 c10 c11 c12
  go_enter Try.func26, Try.ntmps26
  go_wp2
  go_ret
  exact ⟨by rw [signB, HR.out]; rfl, rfl⟩

/-- How many bytes of blanks and remarks stand first; true: within a remark. -/
def skipL : Bool → List UInt8 → Nat
  | _, [] => 0
  | true, c :: t => if c = 10 ∨ c = 13 then 1 + skipL false t else 1 + skipL true t
  | false, c :: t => if kindI c.toNat = 1 then 1 + skipL false t else if c = 37 then 1 + skipL true t else 0
theorem skipL_end (s : ByteArray) (j : Nat) (h : s.size ≤ j) (b : Bool) : skipL b (s.toList.drop j) = 0 := by rw [drop_end s j h]; cases b <;> rfl
theorem skipL_f (s : ByteArray) (j : Nat) (h : j < s.size) : skipL false (s.toList.drop j) = if kindI s[j].toNat = 1 then 1 + skipL false (s.toList.drop (j + 1)) else if s[j] = 37 then 1 + skipL true (s.toList.drop (j + 1)) else 0 := by
  rw [drop_at s j h, skipL]
theorem skipL_t (s : ByteArray) (j : Nat) (h : j < s.size) : skipL true (s.toList.drop j) = if s[j] = 10 ∨ s[j] = 13 then 1 + skipL false (s.toList.drop (j + 1)) else 1 + skipL true (s.toList.drop (j + 1)) := by
  rw [drop_at s j h, skipL]
theorem kind_10 : kindI ((10 : UInt8).toNat : Int) = 1 := by decide
theorem kind_13 : kindI ((13 : UInt8).toNat : Int) = 1 := by decide

set_option maxRecDepth 100000 in
set_option maxHeartbeats 2000000 in
theorem skip_any (s : ByteArray) (a : Nat) (hs : s.size ≤ 1000000) (ha : a ≤ s.size) (w : World) :
    Calls Try.prog 18 #[.string s, .int .i64 a] w fun e w' => e = .returned (.int .i64 ((a + skipL false (s.toList.drop a) : Nat) : Int)) ∧ w = w' := by
  go_enter Try.func18, Try.ntmps18
  go_wp2
  go_step3
  go_wp2
  go_step3
  go_wp2
  go_loopg [1] (s.size - a) (fun g i wx => ∃ j : Nat, a ≤ j ∧ j + g = s.size ∧ i = .int .i64 j ∧ a + skipL false (s.toList.drop a) = j + skipL false (s.toList.drop j) ∧ w = wx)
  case atStart => exact ⟨a, Nat.le_refl _, by omega, rfl, rfl, rfl⟩
  case round =>
    obtain ⟨j, hj1, hj2, rfl, h1, rfl⟩ := hrel
    have H1 := hid' h1
    clear h1
    by_cases hlt : j < s.size
    rotate_left
    · obtain rfl : j = s.size := by omega
      have HY := hid' (skipL_end s s.size (Nat.le_refl _) false)
      go_wp2_with fail
      rw [Exit.noGoto_ret]
      go_ret
      exact ⟨by rw [H1.out, HY.out]; rfl, rfl⟩
    have hlt' : (j : Int) < s.size := by omega
    have hE := skipL_f s j hlt
    by_cases ek : kindI s[j].toNat = 1
    · have uk : (kindI s[j].toNat == 1) = true := by simpa using ek
      have HY := hid' (hE.trans (if_pos ek))
      clear hE ek
      go_wp2_with fail
      refine (ckind_any _ _).mono ?_
      rintro r w1 ⟨rfl, rfl⟩
      go_wp2_with fail
      go_roundg (s.size - (j + 1))
      case rel => exact ⟨j + 1, by omega, by omega, by go_num, by rw [H1.out, HY.out]; omega, rfl⟩
      case measure => omega
    have uk : (kindI s[j].toNat == 1) = false := by simpa using ek
    have hE1 := hE.trans (if_neg ek)
    clear hE ek
    by_cases e37 : s[j] = 37
    rotate_left
    · have u37 := u8F 37 e37 (37 : Int)
      have HY := hid' (hE1.trans (if_neg e37))
      clear hE1 e37
      go_wp2_with fail
      refine (ckind_any _ _).mono ?_
      rintro r w1 ⟨rfl, rfl⟩
      go_wp2_with fail
      rw [Exit.noGoto_ret]
      go_ret
      exact ⟨by rw [H1.out, HY.out]; rfl, rfl⟩
    have u37 := u8T 37 e37 (37 : Int)
    have HY := hid' (hE1.trans (if_pos e37))
    clear hE1 e37
    go_wp2_with fail
    refine (ckind_any _ _).mono ?_
    rintro r w1 ⟨rfl, rfl⟩
    go_wp2_with fail
    go_loopg [1] (s.size - (j + 1)) (fun g i wx => ∃ k : Nat, j < k ∧ k + g = s.size ∧ i = .int .i64 k ∧ a + skipL false (s.toList.drop a) = k + skipL true (s.toList.drop k) ∧ w = wx)
    case atStart => exact ⟨j + 1, by omega, by omega, by go_num, by rw [H1.out, HY.out]; omega, rfl⟩
    case round =>
      obtain ⟨k, hk1, hk2, rfl, h2, rfl⟩ := hrel
      have H2 := hid' h2
      clear h2
      by_cases hkt : k < s.size
      rotate_left
      · obtain rfl : k = s.size := by omega
        have HZ := hid' (skipL_end s s.size (Nat.le_refl _) true)
        have HZ2 := hid' (skipL_end s s.size (Nat.le_refl _) false)
        go_wp2_with fail
        go_roundg 0
        case rel => exact ⟨s.size, by omega, by omega, rfl, by rw [H2.out, HZ.out, HZ2.out], rfl⟩
        case measure => omega
      have hkt' : (k : Int) < s.size := by omega
      have hF := skipL_t s k hkt
      by_cases e10 : s[k] = 10
      · have u10 := u8T 10 e10 (10 : Int)
        have HZ := hid' (hF.trans (if_pos (.inl e10)))
        have HZ2 := hid' ((skipL_f s k hkt).trans (if_pos (by rw [e10]; exact kind_10)))
        clear hF e10
        go_wp2_with fail
        go_roundg (s.size - k)
        case rel => exact ⟨k, by omega, by omega, rfl, by rw [H2.out, HZ.out, HZ2.out], rfl⟩
        case measure => omega
      have u10 := u8F 10 e10 (10 : Int)
      by_cases e13 : s[k] = 13
      · have u13 := u8T 13 e13 (13 : Int)
        have HZ := hid' (hF.trans (if_pos (.inr e13)))
        have HZ2 := hid' ((skipL_f s k hkt).trans (if_pos (by rw [e13]; exact kind_13)))
        clear hF e13 e10
        go_wp2_with fail
        go_roundg (s.size - k)
        case rel => exact ⟨k, by omega, by omega, rfl, by rw [H2.out, HZ.out, HZ2.out], rfl⟩
        case measure => omega
      have u13 := u8F 13 e13 (13 : Int)
      have HZ := hid' (hF.trans (if_neg (by rintro (h | h); exact e10 h; exact e13 h)))
      clear hF e13 e10
      go_wp2_with fail
      go_roundg (s.size - (k + 1))
      case rel => exact ⟨k + 1, by omega, by omega, by go_num, by rw [H2.out, HZ.out]; omega, rfl⟩
      case measure => omega
end Go.Proofs.Ytgahapnjlngebaa
