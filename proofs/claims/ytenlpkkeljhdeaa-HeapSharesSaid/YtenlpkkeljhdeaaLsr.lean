/- Walk: tympanlaw11.HeapShares. -/
import Derived.Test.YtenlpkkeljhdeaaLpl
namespace Go.Proofs.Ytenlpkkeljhdeaa
open Go.RowKit

abbrev intO (v : Int) : O := ⟨3, false, v, 0, 0, ⟨#[]⟩⟩
/-- The items of the array behind the one that is set. -/
def sharedL (k j : Nat) (v : Int) : List O := (List.replicate k nullO).set j (intO v)
theorem shared_length (k j : Nat) (v : Int) : (sharedL k j v).length = k := by simp [sharedL]
theorem shared_at (k j : Nat) (v : Int) (hj : j < k) (x : Nat) (hx : x < k) : (sharedL k j v)[x]? = some (if x = j then intO v else nullO) := by
  unfold sharedL
  by_cases h : x = j
  · subst h; simp [hj]
  · rw [List.getElem?_set_ne (by omega), if_neg h]; simp [hx]
theorem may_int (L : List C) (v : Int) (h : -2147483647 ≤ v) (h' : v ≤ 2147483647) : mayH L (intO v) = true := by
  simp [mayH, held, mayO, eqO, bareO, O.nil]
  omega

set_option maxRecDepth 100000 in
set_option maxHeartbeats 4000000 in
theorem heapShares_any (a0 a1 a2 a3 a4 : Int) (l0 : 0 ≤ a0) (u0 : a0 < 256) (l1 : 0 ≤ a1) (u1 : a1 < 256) (l2 : 0 ≤ a2) (u2 : a2 < 256) (l3 : 0 ≤ a3) (u3 : a3 < 256) (l4 : -32768 ≤ a4) (u4 : a4 < 32768) (w : World) :
   Calls Try.prog 5 #[.int .u8 a0, .int .u8 a1, .int .u8 a2, .int .u8 a3, .int .i16 a4] w fun e w' => e = .returned (.bool true) ∧ Chg NoB w w' := by
  obtain ⟨k, hk⟩ : ∃ k, 1 + a0 % 40 = k := ⟨_, rfl⟩
  have k1 : 1 ≤ k := by omega
  have k2 : k ≤ 40 := by omega
  obtain ⟨fr, hf⟩ : ∃ fr, a1 % k = fr := ⟨_, rfl⟩
  have f1 : 0 ≤ fr := hf ▸ Int.emod_nonneg _ (by omega)
  have f2 : fr < k := hf ▸ Int.emod_lt_of_pos _ (by omega)
  obtain ⟨z, hz⟩ : ∃ z, a2 % (k - fr) = z := ⟨_, rfl⟩
  have z1 : 0 ≤ z := hz ▸ Int.emod_nonneg _ (by omega)
  have z2 : z < k - fr := hz ▸ Int.emod_lt_of_pos _ (by omega)
  obtain ⟨m, hm⟩ : ∃ m, 1 + z = m := ⟨_, rfl⟩
  obtain ⟨i, hi⟩ : ∃ i, a3 % m = i := ⟨_, rfl⟩
  have i1 : 0 ≤ i := hi ▸ Int.emod_nonneg _ (by omega)
  have i2 : i < m := hi ▸ Int.emod_lt_of_pos _ (by omega)
  have hal : ((arr k.toNat).items.length : Int) = k := by simp; omega
  have S1 := room_1 k (by omega) (by omega)
  have S2 := part_arr (arr k.toNat) k fr m rfl rfl hal (by omega) (by omega) (by omega) (by omega)
  have S3 := set_arr (arr k.toNat) k fr m i (intO a4) rfl rfl rfl hal (by omega) (by omega) (by omega) (by omega) (by omega) (by omega) (may_int _ a4 (by omega) (by omega))
  have hsl : ((sharedL k.toNat (fr + i).toNat a4).length : Int) = k := by rw [shared_length]; omega
  have S4 := items_arr ⟨false, false, false, sharedL k.toNat (fr + i).toNat a4, []⟩ k 0 k rfl rfl hsl (by omega) (by omega) (by omega) (by omega)
  have S5 := items_arr ⟨false, false, false, sharedL k.toNat (fr + i).toNat a4, []⟩ k fr m rfl rfl hsl (by omega) (by omega) (by omega) (by omega)
  have q4 : ((sharedL k.toNat (fr + i).toNat a4).drop (0 : Int).toNat).take k.toNat = sharedL k.toNat (fr + i).toNat a4 := by
    rw [Int.toNat_zero, List.drop_zero, List.take_of_length_le (by rw [shared_length]; exact Nat.le_refl _)]
  rw [q4] at S4
  have hql : (((sharedL k.toNat (fr + i).toNat a4).drop fr.toNat).take m.toNat).length = m.toNat := by simp [shared_length]; omega
  have hqa : ∀ x : Nat, fr.toNat ≤ x → x < (fr + m).toNat → (((sharedL k.toNat (fr + i).toNat a4).drop fr.toNat).take m.toNat)[x - fr.toNat]? = some (if x = (fr + i).toNat then intO a4 else nullO) := fun x h1 h2 => by
    rw [List.getElem?_take_of_lt (by omega), List.getElem?_drop, show fr.toNat + (x - fr.toNat) = x by omega, shared_at _ _ _ (by omega) _ (by omega)]
  have hla : ∀ x : Nat, x < k.toNat → (sharedL k.toNat (fr + i).toNat a4)[x]? = some (if x = (fr + i).toNat then intO a4 else nullO) := fun x h => shared_at _ _ _ (by omega) _ h
  have hu : used [⟨false, false, false, sharedL k.toNat (fr + i).toNat a4, []⟩] = k.toNat := by simp [used, C.size, shared_length]
  have hll : (sharedL k.toNat (fr + i).toNat a4).length = k.toNat := shared_length ..
  change setH _ _ _ _ = ([⟨false, false, false, sharedL k.toNat (fr + i).toNat a4, []⟩], 0) at S3
  generalize ((sharedL k.toNat (fr + i).toNat a4).drop fr.toNat).take m.toNat = lq at *
  generalize sharedL k.toNat (fr + i).toNat a4 = ll at *
  have e1 : wrap64 (1 + a0 % 40) = k := by rw [hk]; exact IntWalk.wrap64_in _ (by omega)
  have e2 : wrap64 (k - fr) = k - fr := IntWalk.wrap64_in _ (by omega)
  have e3 : wrap64 (1 + z) = m := by rw [hm]; exact IntWalk.wrap64_in _ (by omega)
  have m1 : 1 ≤ m := by omega
  have m2 : m ≤ k - fr := by omega
  have n1 : ¬ k = 0 := by omega
  have n2 : ¬ k - fr = 0 := by omega
  have n3 : ¬ m = 0 := by omega
  clear q4 hsl hal
  go_enter Try.func5, Try.ntmps5
  go_wp2_with fail
  refine (known11_any w).mono ?_
  rintro e w0 ⟨rfl, X0⟩
  go_wp2_with fail
  refine (new_any w0).mono ?_
  rintro e w1 ⟨rfl, hw1⟩
  have A0 : At w w1 w0.heap.size [] [] := hw1 ▸ At.new X0
  clear hw1
  go_wp2_with fail
  refine (at_array A0 _ S1).mono ?_
  rintro e w2 ⟨rfl, A1⟩
  go_wp2_with fail
  refine (at_part (A1.alloc _) _ _ _ S2).mono ?_
  rintro e w3 ⟨rfl, A2⟩
  have R2 := cells_of (A2.box _ (List.mem_cons_self ..))
  go_wp2_with fail
  refine (at_set (A2.alloc _) _ _ _ S3).mono ?_
  rintro e w4 ⟨rfl, A3⟩
  have R3 := cells_of (A3.box _ (List.mem_cons_of_mem _ (List.mem_cons_self ..)))
  clear R2
  go_wp2_with fail
  refine (at_items A3 _ S4 (by omega)).mono ?_
  rintro e w5 ⟨g1, cap1, cur1, fz1, rfl, hc1, A4, RL⟩
  have R4 := cells_of (A4.box _ (List.mem_cons_of_mem _ (List.mem_cons_self ..)))
  clear R3
  go_wp2_with fail
  refine (at_items A4 _ S5 (by omega)).mono ?_
  rintro e w6 ⟨g2, cap2, cur2, fz2, rfl, hc2, A5, RQ⟩
  clear R4
  have kt : ((k.toNat : Nat) : Int) = k := by omega
  have mt : ((m.toNat : Nat) : Int) = m := by omega
  go_wp2_with fail
  have B1 := A5.box (g1, .cells cur1 29 fz1) (List.mem_cons_of_mem _ (List.mem_cons_self ..))
  have B2 := A5.box (g2, .cells cur2 29 fz2) (List.mem_cons_self ..)
  have v1 := blk_lt B1
  have v2 := blk_lt B2
  simp only at v1 v2
  clear hk hf hz hm hi l0 u0 l1 u1 l2 u2 l3 u3 S1 S2 S3 S4 S5 A0 A1 A2 A3 A4 X0
  go_loopw [25] (fun c wr => ∃ x : Nat, x ≤ k.toNat ∧ c = .int .i64 x ∧ Chg NoB w6 wr) (fun c _ => k.toNat - (intOf c).toNat)
  case atStart => exact ⟨0, Nat.zero_le _, rfl, Chg.refl _ _⟩
  case round =>
    obtain ⟨x, hx, rfl, X⟩ := hrel
    have vx := X.size
    by_cases hlt : x < k.toNat
    · have hlt' : (x : Int) < k := by omega
      have e4 : wrap64 (fr + i) = fr + i := IntWalk.wrap64_in _ (by omega)
      have e5 : IntKind.i64.wrap (fr + i) = fr + i := IntWalk.i64_in _ (by omega)
      have e6 : IntKind.i64.wrap (fr + m) = fr + m := IntWalk.i64_in _ (by omega)
      by_cases he : (x : Int) = fr + i
      · have q0 := row_item RL (hla x hlt)
        rw [if_pos (by omega)] at q0
        obtain ⟨y0, y1, y2, y3, y4, y5⟩ := q0
        obtain ⟨j, hj⟩ : ∃ j : Nat, x - fr.toNat = j := ⟨_, rfl⟩
        have q1 := row_item RQ (hqa x (by omega) (by omega))
        rw [if_pos (by omega), hj] at q1
        obtain ⟨x0, x1, x2, x3, x4, x5⟩ := q1
        have d1 : ((x : Int) == fr + i) = true := by simp [he]
        have d2 : decide (fr ≤ (x : Int)) = true := by simp; omega
        have d3 : decide ((x : Int) < fr + m) = true := by simp; omega
        have d4 : IntKind.i64.wrap ((x : Int) - fr) = j := by rw [IntWalk.i64_in _ (by omega)]; omega
        have d5 : j < m.toNat := by omega
        have d6 : (j : Int) < m := by omega
        have d7 : eqO ⟨3, false, a4, 0, 0, ⟨#[]⟩⟩ ⟨3, false, a4, 0, 0, ⟨#[]⟩⟩ = true := eqO_self _
        simp only at y0 y1 y2 y3 y4 y5 x0 x1 x2 x3 x4 x5
        clear he hj RL RQ hla hqa
        go_wp2_with fail
        have Y := X.alloc (.cells #[.int .i64 3, .bool false, .int .i64 a4, .int .i64 0, .int .i64 0, .string ⟨#[]⟩] 29)
        have R1 := cells_of (Y.blk B1 id)
        have R2 := cells_of (Y.blk B2 id)
        have R3 := cells_of (blk_new wr (.cells #[.int .i64 3, .bool false, .int .i64 a4, .int .i64 0, .int .i64 0, .string ⟨#[]⟩] 29))
        generalize wr.alloc (.cells #[.int .i64 3, .bool false, .int .i64 a4, .int .i64 0, .int .i64 0, .string ⟨#[]⟩] 29) = w7 at *
        go_quiet (fail)
        go_wp2_with fail
        go_roundw
        case rel => exact ⟨x + 1, by omega, by go_num, Y.drewN nq⟩
        case measure => simp [intOf]; omega
      have q0 := row_item RL (hla x hlt)
      rw [if_neg (by omega)] at q0
      obtain ⟨y0, y1, y2, y3, y4, y5⟩ := q0
      have d1 : ((x : Int) == fr + i) = false := by simp [he]
      have d7 : eqO ⟨1, false, 0, 0, 0, ⟨#[]⟩⟩ ⟨1, false, 0, 0, 0, ⟨#[]⟩⟩ = true := eqO_self _
      simp only [nullO] at y0 y1 y2 y3 y4 y5
      by_cases hb : (x : Int) < fr
      · have d2 : decide (fr ≤ (x : Int)) = false := by simp; omega
        clear he RL RQ hla hqa
        go_wp2_with fail
        have Y := X.alloc (.cells #[.int .i64 1, .bool false, .int .i64 0, .int .i64 0, .int .i64 0, .string ⟨#[]⟩] 29)
        have R1 := cells_of (Y.blk B1 id)
        have R2 := cells_of (Y.blk B2 id)
        have R3 := cells_of (blk_new wr (.cells #[.int .i64 1, .bool false, .int .i64 0, .int .i64 0, .int .i64 0, .string ⟨#[]⟩] 29))
        generalize wr.alloc (.cells #[.int .i64 1, .bool false, .int .i64 0, .int .i64 0, .int .i64 0, .string ⟨#[]⟩] 29) = w7 at *
        go_quiet (fail)
        go_wp2_with fail
        go_roundw
        case rel => exact ⟨x + 1, by omega, by go_num, Y.drewN nq⟩
        case measure => simp [intOf]; omega
      by_cases hc : fr + m ≤ (x : Int)
      · have d2 : decide (fr ≤ (x : Int)) = true := by simp; omega
        have d3 : decide ((x : Int) < fr + m) = false := by simp; omega
        clear he RL RQ hla hqa
        go_wp2_with fail
        have Y := X.alloc (.cells #[.int .i64 1, .bool false, .int .i64 0, .int .i64 0, .int .i64 0, .string ⟨#[]⟩] 29)
        have R1 := cells_of (Y.blk B1 id)
        have R2 := cells_of (Y.blk B2 id)
        have R3 := cells_of (blk_new wr (.cells #[.int .i64 1, .bool false, .int .i64 0, .int .i64 0, .int .i64 0, .string ⟨#[]⟩] 29))
        generalize wr.alloc (.cells #[.int .i64 1, .bool false, .int .i64 0, .int .i64 0, .int .i64 0, .string ⟨#[]⟩] 29) = w7 at *
        go_quiet (fail)
        go_wp2_with fail
        go_roundw
        case rel => exact ⟨x + 1, by omega, by go_num, Y.drewN nq⟩
        case measure => simp [intOf]; omega
      · obtain ⟨j, hj⟩ : ∃ j : Nat, x - fr.toNat = j := ⟨_, rfl⟩
        have q1 := row_item RQ (hqa x (by omega) (by omega))
        rw [if_neg (by omega), hj] at q1
        obtain ⟨x0, x1, x2, x3, x4, x5⟩ := q1
        have d2 : decide (fr ≤ (x : Int)) = true := by simp; omega
        have d3 : decide ((x : Int) < fr + m) = true := by simp; omega
        have d4 : IntKind.i64.wrap ((x : Int) - fr) = j := by rw [IntWalk.i64_in _ (by omega)]; omega
        have d5 : j < m.toNat := by omega
        have d6 : (j : Int) < m := by omega
        simp only [nullO] at x0 x1 x2 x3 x4 x5
        clear he hj hb hc RL RQ hla hqa
        go_wp2_with fail
        have Y := X.alloc (.cells #[.int .i64 1, .bool false, .int .i64 0, .int .i64 0, .int .i64 0, .string ⟨#[]⟩] 29)
        have R1 := cells_of (Y.blk B1 id)
        have R2 := cells_of (Y.blk B2 id)
        have R3 := cells_of (blk_new wr (.cells #[.int .i64 1, .bool false, .int .i64 0, .int .i64 0, .int .i64 0, .string ⟨#[]⟩] 29))
        generalize wr.alloc (.cells #[.int .i64 1, .bool false, .int .i64 0, .int .i64 0, .int .i64 0, .string ⟨#[]⟩] 29) = w7 at *
        go_quiet (fail)
        go_wp2_with fail
        go_roundw
        case rel => exact ⟨x + 1, by omega, by go_num, Y.drewN nq⟩
        case measure => simp [intOf]; omega
    · have hlt' : ¬ (x : Int) < k := by omega
      have hle : k ≤ (x : Int) := by omega
      clear RL RQ hla hqa
      go_wp2_with fail
      refine (at_cells (A5.pure X)).mono ?_
      rintro e w7 ⟨rfl, rfl⟩
      go_wp2_with fail
      refine (at_used (A5.pure X)).mono ?_
      rintro e w7 ⟨rfl, rfl⟩
      rw [hu]
      go_wp2_with fail
      go_ret
      exact ⟨by simp, (A5.pure X).chg⟩
end Go.Proofs.Ytenlpkkeljhdeaa
