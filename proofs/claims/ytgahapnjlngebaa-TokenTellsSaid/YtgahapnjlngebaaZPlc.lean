/- Walk: tympanhelp.Place. -/
import Derived.Test.YtgahapnjlngebaaZHeapa
namespace Go.Proofs.Ytgahapnjlngebaa
open Go.RowKit

theorem place_any (v n : Int) (h : 0 < n) (hn : n ≤ 1000000000000) (w : World) :
    Calls Try.prog 11 #[.int .i64 v, .int .i64 n] w fun e w' => e = .returned (.int .i64 (v % n)) ∧ w = w' := by
  have h1 := Int.emod_nonneg v (show n ≠ 0 by omega)
  have h2 := Int.emod_lt_of_pos v h
  obtain ⟨r, hr⟩ : ∃ r, v % n = r := ⟨_, rfl⟩
  rw [hr] at h1 h2 ⊢
  have hn0 : (n == 0) = false := by simp; omega
  obtain ⟨t, ht⟩ : ∃ t, v.tmod n = t := ⟨_, rfl⟩
  have hrel : (0 ≤ t → t = r) ∧ (t < 0 → t + n = r) ∧ -n < t ∧ t < n := by
    have e1 := Int.tmod_def v n
    have e2 := Int.emod_def v n
    by_cases c : 0 ≤ v
    · rw [Int.tmod_eq_emod_of_nonneg c] at ht; omega
    · obtain ⟨u, rfl⟩ : ∃ u, v = -u := ⟨-v, by omega⟩
      have e3 : (-u).tmod n = -(u % n) := by rw [Int.neg_tmod, Int.tmod_eq_emod_of_nonneg (by omega)]
      have e4 := Int.emod_nonneg u (show n ≠ 0 by omega)
      have e5 := Int.emod_lt_of_pos u h
      by_cases z : u % n = 0
      · have : (-u) % n = 0 := Int.emod_eq_zero_of_dvd (Int.dvd_neg.2 (Int.dvd_of_emod_eq_zero z))
        omega
      · have : (-u) % n = n - u % n := by
          rw [Int.neg_emod, if_neg (fun d => z (Int.emod_eq_zero_of_dvd d))]; omega
        omega
  obtain ⟨r1, r2, r3, r4⟩ := hrel
  have hw := IntWalk.i64_in t (by omega)
  by_cases c : t < 0
  · have hz := r2 c
    clear r1 r2 hr
    go_enter Try.func11, Try.ntmps11
    go_wp2_with fail
    go_ret
    exact ⟨by rw [← hz]; rfl, rfl⟩
  · have hz := r1 (by omega)
    clear r1 r2 hr
    go_enter Try.func11, Try.ntmps11
    go_wp2_with fail
    go_ret
    exact ⟨by rw [← hz]; rfl, rfl⟩
end Go.Proofs.Ytgahapnjlngebaa
