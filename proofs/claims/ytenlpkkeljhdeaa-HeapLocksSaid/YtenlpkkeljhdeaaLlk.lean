/- Walk: tympanlaw11.HeapLocks. -/
import Derived.Test.YtenlpkkeljhdeaaLpt
namespace Go.Proofs.Ytenlpkkeljhdeaa
open Go.RowKit

set_option maxRecDepth 100000 in
set_option maxHeartbeats 4000000 in
theorem heapLocks_any (a0 a1 a2 : Int) (x : O) (l0 : 0 ≤ a0) (u0 : a0 < 256) (l1 : 0 ≤ a1) (u1 : a1 < 256) (l2 : 0 ≤ a2) (u2 : a2 < 256) (ws : x.s.size ≤ maxLen) (w : World) :
   Calls Try.prog 8 #[.int .u8 a0, .int .u8 a1, .int .u8 a2, x.val] w fun e w' => e = .returned (.bool true) ∧ Chg NoB w w' := by
  obtain ⟨xk, xe, xn, xp, xl, xs⟩ := x
  obtain ⟨sz, hz⟩ : ∃ z : Int, (xs.size : Int) = z := ⟨_, rfl⟩
  have zz : sz ≤ 9223372036854775807 := by simp only [maxLen] at ws; omega
  have z0 : 0 ≤ sz := by omega
  have B0 : Ats w (w.alloc (.cells #[.int .i64 xk, .bool xe, .int .i64 xn, .int .i64 xp, .int .i64 xl, .string xs] 29)) [] [(w.heap.size, .cells #[.int .i64 xk, .bool xe, .int .i64 xn, .int .i64 xp, .int .i64 xl, .string xs] 29)] := (Ats.start (Chg.refl _ _)).alloc _
  by_cases hg : 200 < sz
  · go_enter Try.func8, Try.ntmps8
    go_wp2_with fail
    refine (known11_any _).mono ?_
    rintro e w0 ⟨rfl, X0⟩
    have B1 := B0.pure X0
    have R := cells_of (B1.box _ (List.mem_cons_self ..))
    go_wp2
    go_ret
    exact ⟨rfl, B1.chg⟩
  obtain ⟨k, hk⟩ : ∃ k, 1 + a0 % 30 = k := ⟨_, rfl⟩
  have k1 : 1 ≤ k := by omega
  have k2 : k ≤ 30 := by omega
  obtain ⟨fr, hf⟩ : ∃ fr, a1 % k = fr := ⟨_, rfl⟩
  have f1 : 0 ≤ fr := hf ▸ Int.emod_nonneg _ (by omega)
  have f2 : fr < k := hf ▸ Int.emod_lt_of_pos _ (by omega)
  obtain ⟨i, hi⟩ : ∃ i, a2 % k = i := ⟨_, rfl⟩
  have i1 : 0 ≤ i := hi ▸ Int.emod_nonneg _ (by omega)
  have i2 : i < k := hi ▸ Int.emod_lt_of_pos _ (by omega)
  have hi' : a2.tmod k = i := by rw [Int.tmod_eq_emod_of_nonneg l2]; exact hi
  have hal : ((arr k.toNat).items.length : Int) = k := by simp; omega
  have S1 := room_1 k (by omega) (by omega)
  have S2 := part_arr (arr k.toNat) k fr (k - fr) rfl rfl hal (by omega) (by omega) (by omega) (by omega)
  have S3 := lock_arr (arr k.toNat) k fr (k - fr) rfl rfl hal (by omega) (by omega) (by omega) (by omega)
  have S4 := set_locked { arr k.toNat with locked := true } k 0 k i ⟨xk, xe, xn, xp, xl, xs⟩ rfl rfl rfl hal (by omega) (by omega) (by omega) (by omega) (by omega) (by omega)
  have S5 := put_locked { arr k.toNat with locked := true } k 0 k fr (k - fr) 0 rfl rfl rfl hal (by omega) (by omega) (by omega) (by omega) (by omega) (by omega) (by omega) (by omega) (by omega)
  have S6 := items_arr { arr k.toNat with locked := true } k 0 k rfl rfl hal (by omega) (by omega) (by omega) (by omega)
  have q6 : ((List.replicate k.toNat nullO).drop (0 : Int).toNat).take k.toNat = List.replicate k.toNat nullO := by
    rw [Int.toNat_zero, List.drop_zero, List.take_of_length_le (by simp)]
  change itemsH _ _ = (((List.replicate k.toNat nullO).drop (0 : Int).toNat).take k.toNat, 0) at S6
  rw [q6] at S6
  have hll : (List.replicate k.toNat nullO).length = k.toNat := List.length_replicate
  have hla : ∀ x : Nat, x < k.toNat → (List.replicate k.toNat nullO)[x]? = some nullO := fun x h => by simp [h]
  generalize List.replicate k.toNat nullO = ll at *
  have n1 : ¬ k = 0 := by omega
  have kt : ((k.toNat : Nat) : Int) = k := by omega
  clear q6 hal
  go_enter Try.func8, Try.ntmps8
  go_wp2_with fail
  refine (known11_any _).mono ?_
  rintro e w0 ⟨rfl, X0⟩
  have B1 := B0.pure X0
  have R := cells_of (B1.box _ (List.mem_cons_self ..))
  go_wp2_with fail
  refine (new_any w0).mono ?_
  rintro e w1 ⟨rfl, rfl⟩
  have A0 := B1.new
  clear R B1 B0 X0
  go_wp2_with fail
  refine (at_array A0 _ S1).mono ?_
  rintro e w2 ⟨rfl, A1⟩
  go_wp2_with fail
  refine (at_part (A1.alloc _) _ _ _ S2).mono ?_
  rintro e w3 ⟨rfl, A2⟩
  go_wp2_with fail
  refine (at_lock (A2.alloc _) _ S3).mono ?_
  rintro e w4 ⟨rfl, A3⟩
  have R4 := cells_of (A3.box _ (List.mem_cons_of_mem _ (List.mem_cons_self ..)))
  have Rx := cells_of (A3.box _ (List.mem_cons_of_mem _ (List.mem_cons_of_mem _ (List.mem_cons_self ..))))
  clear A0 A1 A2
  go_wp2_with fail
  go_still_tail 7, (by kernel_rfl)
  have A3' := A3.pure (Chg.refl NoB w4).drew

  go_wp2_with fail
  rw [hi]
  refine (at_set A3' _ _ _ S4).mono ?_
  rintro e w6 ⟨rfl, A4⟩
  have R5 := cells_of (A4.box _ (List.mem_cons_self ..))
  have R6 := cells_of (A4.box _ (List.mem_cons_of_mem _ (List.mem_cons_self ..)))
  clear R4 Rx A3 A3'
  go_wp2_with fail
  refine (at_put A4 _ _ _ S5).mono ?_
  rintro e w7 ⟨rfl, A5⟩
  have R7 := cells_of (A5.box _ (List.mem_cons_of_mem _ (List.mem_cons_self ..)))
  clear R5 R6 A4
  go_wp2_with fail
  refine (at_items A5 _ S6 (by omega)).mono ?_
  rintro e w8 ⟨g1, cap1, cur1, fz1, rfl, hc1, A6, RL⟩
  clear R7 A5
  have B1 := A6.box (g1, .cells cur1 29 fz1) (List.mem_cons_self ..)
  have v1 := blk_lt B1
  simp only at v1
  have XX := A6.chg
  clear S1 S2 S3 S4 S5 S6 A6 hk hf hi hi' l0 u0 l1 u1 l2 u2
  go_wp2_with fail
  go_loopw [21] (fun c wr => ∃ x : Nat, x ≤ k.toNat ∧ c = .int .i64 x ∧ Chg NoB w8 wr) (fun c _ => k.toNat - (intOf c).toNat)
  case atStart => exact ⟨0, Nat.zero_le _, rfl, Chg.refl _ _⟩
  case round =>
    obtain ⟨x, hx, rfl, X⟩ := hrel
    by_cases hlt : x < k.toNat
    · have hlt' : (x : Int) < k := by omega
      obtain ⟨y0, y1, y2, y3, y4, y5⟩ := row_item RL (hla x hlt)
      simp only [nullO] at y0 y1 y2 y3 y4 y5
      have d7 : eqO ⟨1, false, 0, 0, 0, ⟨#[]⟩⟩ ⟨1, false, 0, 0, 0, ⟨#[]⟩⟩ = true := eqO_self _
      have R1 := cells_of (X.blk B1 id)
      clear RL hla
      go_wp2_with fail
      go_roundw
      case rel => exact ⟨x + 1, by omega, by go_num, by assumption⟩
      case measure => simp [intOf]; omega
    · have hlt' : ¬ (x : Int) < k := by omega
      have hle : k ≤ (x : Int) := by omega
      clear RL hla
      go_wp2_with fail
      go_ret
      exact ⟨by simp, XX.pure X⟩
end Go.Proofs.Ytenlpkkeljhdeaa
