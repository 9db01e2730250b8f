/- Walk: numtext: tens, nearest. -/
import Derived.Test.YtgahapnjlngebaaZTnu
namespace Go.Proofs.Ytgahapnjlngebaa
open Go.RowKit

/-- To the nearest of a / b, of two as near the even one. -/
def nearI (a b : Int) : Int := if b - a % b < a % b ∨ (a % b = b - a % b ∧ a / b % 2 = 1) then a / b + 1 else a / b
set_option maxRecDepth 100000 in
set_option maxHeartbeats 1000000 in
theorem nearest_any (a b : Int) (h0 : 0 ≤ a) (h1 : a ≤ 1000000000000000000) (h2 : 1 ≤ b) (h3 : b ≤ 1000000000000000000) (w : World) :
    Calls Try.prog 49 #[.int .i64 a, .int .i64 b] w fun e w' => e = .returned (.int .i64 (nearI a b)) ∧ Chg NoB w w' := by
  have hr : nearI a b = if b - a % b < a % b ∨ (a % b = b - a % b ∧ a / b % 2 = 1) then a / b + 1 else a / b := rfl
  have HR := hid' hr
  clear hr
  have q0 : 0 ≤ a / b := Int.ediv_nonneg h0 (by omega)
  have q1 : a / b ≤ a := Int.ediv_le_self b h0
  have r0 : 0 ≤ a % b := Int.emod_nonneg _ (by omega)
  have r1 : a % b < b := Int.emod_lt_of_pos _ (by omega)
  have t1 : a.tdiv b = a / b := Int.tdiv_eq_ediv_of_nonneg h0
  have t2 : a.tmod b = a % b := Int.tmod_eq_emod_of_nonneg h0
  have t3 : IntKind.i64.wrap (a / b) = a / b := IntWalk.i64_in _ (by omega)
  have nb : ¬ b = 0 := by omega
  go_enter Try.func49, Try.ntmps49
  go_wp2_with fail
  go_quiet (fail)
  have X := (Chg.refl NoB w).drewN nq
  generalize w.drewN nq = w1 at *
  generalize a / b = q at *
  generalize a % b = r at *
  clear t1 t2 t3
  have hq : 0 ≤ q % 2 := by omega
  by_cases c1 : b - r < r
  · go_wp2_with fail
    go_ret
    exact ⟨by rw [HR.out, if_pos (.inl c1)]; rfl, X⟩
  · have c1' : r ≤ b - r := by omega
    by_cases c2 : r = b - r
    · have c2' : (r == b - r) = true := by simpa using c2
      by_cases c3 : q % 2 = 1
      · have c3' : (q % 2 == 1) = true := by simpa using c3
        have C2 := hid' c2
        have C3 := hid' c3
        clear c2 c3
        go_wp2_with fail
        go_ret
        exact ⟨by rw [HR.out, if_pos (.inr ⟨C2.out, C3.out⟩)]; rfl, X⟩
      · have c3' : (q % 2 == 1) = false := by simpa using c3
        have C2 := hid' c2
        have C3 := hid' c3
        clear c2 c3
        go_wp2_with fail
        go_ret
        exact ⟨by rw [HR.out, if_neg (by rintro (h | ⟨-, h⟩); omega; exact C3.out h)]; rfl, X⟩
    · have c2' : (r == b - r) = false := by simpa using c2
      have C2 := hid' c2
      clear c2
      go_wp2_with fail
      go_ret
      exact ⟨by rw [HR.out, if_neg (by rintro (h | ⟨h, -⟩); omega; exact C2.out h)]; rfl, X⟩

theorem pow_18 (j : Nat) (h : j ≤ 18) : (1 : Int) ≤ 10 ^ j ∧ (10 : Int) ^ j ≤ 1000000000000000000 := by
  refine ⟨Int.pow_pos (by decide), ?_⟩
  have : (10 : Nat) ^ j ≤ 10 ^ 18 := Nat.pow_le_pow_right (by decide) h
  have e : ((10 ^ j : Nat) : Int) = (10 : Int) ^ j := by simp
  omega
set_option maxRecDepth 100000 in
set_option maxHeartbeats 1000000 in
theorem tens_any (n : Nat) (h : n ≤ 18) (w : World) : Calls Try.prog 48 #[.int .i64 n] w fun e w' => e = .returned (.int .i64 (10 ^ n)) ∧ w = w' := by
  have h' : (n : Int) ≤ 18 := by omega
  go_enter Try.func48, Try.ntmps48
  go_wp2_with fail
  go_loop [3, 5] (fun p i => ∃ j : Nat, j ≤ n ∧ i = .int .i64 j ∧ p = .int .i64 (10 ^ j)) (fun _ i => n - (intOf i).toNat)
  case atStart => exact ⟨0, Nat.zero_le _, rfl, rfl⟩
  case round =>
    obtain ⟨j, hj, rfl, rfl⟩ := hrel
    have hp := pow_18 j (by omega)
    by_cases hlt : j < n
    · have hlt' : (j : Int) < n := by omega
      have hp2 := (pow_18 (j + 1) (by omega)).2
      rw [Int.pow_succ] at hp2
      have HE := hid' (Int.pow_succ (10 : Int) j)
      generalize (10 : Int) ^ j = p at *
      obtain ⟨p0, p1⟩ := hp
      go_wp2_with fail
      go_round
      case rel => exact ⟨j + 1, by omega, by go_num, by rw [HE.out]⟩
      case measure => simp [intOf]; omega
    · obtain rfl : j = n := by omega
      go_wp2_with fail
      go_ret
      exact ⟨rfl, rfl⟩
end Go.Proofs.Ytgahapnjlngebaa
