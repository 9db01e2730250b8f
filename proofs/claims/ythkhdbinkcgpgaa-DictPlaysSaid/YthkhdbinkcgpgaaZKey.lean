/- Walk: tympanlaw12.key. -/
import Derived.Test.YthkhdbinkcgpgaaZDictc
namespace Go.Proofs.Ythkhdbinkcgpgaa
open Go.RowKit

/-- The key of a number. -/
def keyF (k : Int) (raw : O) : O :=
  if k < 0 then raw
  else if k % 4 = 0 then ⟨5, k / 4 % 7 % 2 == 1, 0, 0, 0, ⟨#[UInt8.ofNat (97 + k / 4 % 7).toNat]⟩⟩
  else if k % 4 = 1 then ⟨3, false, k / 4 % 7, 0, 0, ⟨#[]⟩⟩
  else if k % 4 = 2 then ⟨4, false, k / 4 % 7 * 32768, 0, 0, ⟨#[]⟩⟩
  else ⟨2, false, k / 4 % 7 % 2, 0, 0, ⟨#[]⟩⟩
/-- One byte, made a string. -/
theorem str_one (a : Int) (h0 : 0 ≤ a) (h1 : a < 256) (W : World) (g : Nat) (h : W.cell? ⟨g, 0, none⟩ = some (.int .u8 a)) :
    (convert 83 9 (.slice (some ⟨g, 0, none⟩) 1 1)).run Try.prog W = .ok (.string ⟨#[UInt8.ofNat a.toNat]⟩) W := by
  rw [run_conv_bytes W _ ⟨_, _, _, rfl⟩]
  have e : vu8 (UInt8.ofNat a.toNat) = .int .u8 a := by simp [vu8, UInt8.toNat_ofNat']; omega
  exact bytesToString_run Try.prog W ⟨g, 0, none⟩ [UInt8.ofNat a.toNat] 1 (fun i hi => by
    obtain rfl : i = 0 := by simpa using hi
    rw [add_off, h]; simp [e])

set_option maxRecDepth 100000 in
set_option maxHeartbeats 4000000 in
theorem key_any (k : Int) (raw : O) (hk : k < 9223372036854775808) (w : World) : Calls Try.prog 26 #[.int .i64 k, raw.val] w fun e w' => e = .returned (keyF k raw).val ∧ Chg NoB w w' := by
  obtain ⟨rk, rx, rn, rp, rl, rs⟩ := raw
  by_cases h0 : k < 0
  · have hf : keyF k ⟨rk, rx, rn, rp, rl, rs⟩ = ⟨rk, rx, rn, rp, rl, rs⟩ := by unfold keyF; rw [if_pos h0]
    rw [hf]
    clear hf
    go_enter Try.func26, Try.ntmps26
    go_wp2
    refine bodyPost_ret (v := (⟨rk, rx, rn, rp, rl, rs⟩ : O).val) (by simp [results, Try.results26, go_sem]) rfl ⟨rfl, ?_⟩
    (repeat' (first | with_reducible assumption | with_reducible refine Chg.alloc ?_ _ | with_reducible refine Chg.drew ?_ | with_reducible refine Chg.drewN ?_ _ | with_reducible refine Chg.setCell ?_ (Or.inr ?_) _ | exact Nat.le_refl _ | exact Nat.le_add_right _ _ | (simp; done) | (simp; omega)))
    exact Chg.refl _ _
  have h0' : 0 ≤ k := by omega
  have h7 : 0 ≤ k / 4 % 7 := by omega
  have h8 : k / 4 % 7 < 7 := by omega
  have hf : keyF k ⟨rk, rx, rn, rp, rl, rs⟩ = if k % 4 = 0 then ⟨5, k / 4 % 7 % 2 == 1, 0, 0, 0, ⟨#[UInt8.ofNat (97 + k / 4 % 7).toNat]⟩⟩
     else if k % 4 = 1 then ⟨3, false, k / 4 % 7, 0, 0, ⟨#[]⟩⟩
     else if k % 4 = 2 then ⟨4, false, k / 4 % 7 * 32768, 0, 0, ⟨#[]⟩⟩
     else ⟨2, false, k / 4 % 7 % 2, 0, 0, ⟨#[]⟩⟩ := by unfold keyF; rw [if_neg h0]
  have hone := str_one (97 + k / 4 % 7) (by omega) (by omega)
  by_cases h1 : k % 4 = 0
  · rw [hf, if_pos h1]
    clear hf
    go_enter Try.func26, Try.ntmps26
    go_wp2
    refine bodyPost_ret (v := (⟨5, k / 4 % 7 % 2 == 1, 0, 0, 0, ⟨#[UInt8.ofNat (97 + k / 4 % 7).toNat]⟩⟩ : O).val) (by simp [results, Try.results26, go_sem]) rfl ⟨rfl, ?_⟩
    (repeat' (first | with_reducible assumption | with_reducible refine Chg.alloc ?_ _ | with_reducible refine Chg.drew ?_ | with_reducible refine Chg.drewN ?_ _ | with_reducible refine Chg.setCell ?_ (Or.inr ?_) _ | exact Nat.le_refl _ | exact Nat.le_add_right _ _ | (simp; done) | (simp; omega)))
    exact Chg.refl _ _
  clear hone
  have b1 : (k % 4 == 0) = false := by simpa using h1
  by_cases h2 : k % 4 = 1
  · rw [hf, if_neg h1, if_pos h2]
    clear hf h1
    go_enter Try.func26, Try.ntmps26
    go_wp2
    refine bodyPost_ret (v := (⟨3, false, k / 4 % 7, 0, 0, ⟨#[]⟩⟩ : O).val) (by simp [results, Try.results26, go_sem]) rfl ⟨rfl, ?_⟩
    (repeat' (first | with_reducible assumption | with_reducible refine Chg.alloc ?_ _ | with_reducible refine Chg.drew ?_ | with_reducible refine Chg.drewN ?_ _ | with_reducible refine Chg.setCell ?_ (Or.inr ?_) _ | exact Nat.le_refl _ | exact Nat.le_add_right _ _ | (simp; done) | (simp; omega)))
    exact Chg.refl _ _
  have b2 : (k % 4 == 1) = false := by simpa using h2
  by_cases h3 : k % 4 = 2
  · rw [hf, if_neg h1, if_neg h2, if_pos h3]
    clear hf h1 h2
    go_enter Try.func26, Try.ntmps26
    go_wp2
    refine bodyPost_ret (v := (⟨4, false, k / 4 % 7 * 32768, 0, 0, ⟨#[]⟩⟩ : O).val) (by simp [results, Try.results26, go_sem]) rfl ⟨rfl, ?_⟩
    (repeat' (first | with_reducible assumption | with_reducible refine Chg.alloc ?_ _ | with_reducible refine Chg.drew ?_ | with_reducible refine Chg.drewN ?_ _ | with_reducible refine Chg.setCell ?_ (Or.inr ?_) _ | exact Nat.le_refl _ | exact Nat.le_add_right _ _ | (simp; done) | (simp; omega)))
    exact Chg.refl _ _
  have b3 : (k % 4 == 2) = false := by simpa using h3
  rw [hf, if_neg h1, if_neg h2, if_neg h3]
  clear hf h1 h2 h3
  go_enter Try.func26, Try.ntmps26
  go_wp2
  refine bodyPost_ret (v := (⟨2, false, k / 4 % 7 % 2, 0, 0, ⟨#[]⟩⟩ : O).val) (by simp [results, Try.results26, go_sem]) rfl ⟨rfl, ?_⟩
  (repeat' (first | with_reducible assumption | with_reducible refine Chg.alloc ?_ _ | with_reducible refine Chg.drew ?_ | with_reducible refine Chg.drewN ?_ _ | with_reducible refine Chg.setCell ?_ (Or.inr ?_) _ | exact Nat.le_refl _ | exact Nat.le_add_right _ _ | (simp; done) | (simp; omega)))
  exact Chg.refl _ _
end Go.Proofs.Ythkhdbinkcgpgaa
