/- Walk: tympanlaw17.SayNested. -/
import Derived.Test.YtbjlognbaplgpaaZSnp
import Derived.Test.YtbjlognbaplgpaaZSmw
import Derived.Test.YtbjlognbaplgpaaZShell
namespace Go.Proofs.Ytbjlognbaplgpaa
open Go.RowKit

theorem brk_eq (l : List UInt8) (p q : UInt8) : (⟨(p :: (l ++ (32 :: mrkL ++ [q]))).toArray⟩ : ByteArray) = ⟨#[p]⟩ ++ ⟨l.toArray⟩ ++ ⟨#[32, 45, 109, 97, 114, 107, 45]⟩ ++ ⟨#[q]⟩ := by
  apply ByteArray.ext
  simp [ByteArray.data_append, mrkL]

set_option maxRecDepth 100000 in
set_option maxHeartbeats 4000000 in
theorem sayNested_any (a0 : Int) (a1 : Value) (z1 : List Bool) (w : World) (l0 : 0 ≤ a0) (u0 : a0 < 256) (hz : BoolsAt w a1 z1) :
    Calls Try.prog 3 #[.int .u8 a0, a1] w fun e w' => e = .returned (.bool true) ∧ Chg NoB w w' := by
  obtain ⟨ba, len, cap, rfl, hlen, hle, hcm, hbc⟩ := hz
  obtain ⟨L, hL, hL2⟩ : ∃ L : Nat, a0 % 26 = (L : Int) ∧ L ≤ 25 := ⟨(a0 % 26).toNat, by omega, by omega⟩
  have HBC := hid' hbc
  have hm2 : (len : Int) ≤ 9223372036854775807 := by unfold maxLen at hcm; omega
  have hle2 : (len : Int) ≤ cap := by omega
  have hL3 : (L : Int) ≤ 25 := by omega
  have hL4 : (0 : Int) ≤ L := by omega
  clear hbc hcm
  go_enter Try.func3, Try.ntmps3
  go_wp2_with fail
  refine (known17_any w).mono ?_
  rintro e w1 ⟨rfl, X1⟩
  go_wp2_with fail
  refine (at_hnew (Ats.start X1)).mono ?_
  rintro e w2 ⟨hp, rfl, A0⟩
  go_wp2_with fail
  have A2 := A0.alloc (.cells #[.int .i64 3, .bool false, .int .i64 7, .int .i64 0, .int .i64 0, .string ⟨#[]⟩] 27)
  clear A0 X1
  generalize hW : w2.alloc _ = w4 at *
  clear hW
  generalize w2.heap.size = ab at *
  simp only [hL]
  clear hL
  go_loopw [8, 9] (fun sv iv wr => ∃ k : Nat, k ≤ L ∧ iv = .int .i64 k ∧ sv = .string ⟨(wN z1 L k).toArray⟩ ∧ Ats w wr [(hp, hN z1 k)] [(ab, obox (oN z1 k))]) (fun _ iv _ => L - (intOf iv).toNat)
  case atStart => exact ⟨0, by omega, rfl, rfl, A2⟩
  case round =>
    obtain ⟨k, hk, rfl, rfl, A5⟩ := hrel
    clear A2
    by_cases hlt : k < L
    · have hlt' : (k : Int) < L := by omega
      have h0k : (0 : Int) ≤ k := by omega
      have ha := hid' (arr_N z1 k (by omega))
      have HM := hid' (may_N z1 k)
      have S1 := hid' (fun ex => set_X (hN z1 k) ex k 2 [nullO, nullO] (hN_len ..) rfl (by omega) (by omega) 0 (by omega) (oN z1 k) (may_N z1 k _ (by omega)))
      have S2 := hid' (fun ex => set_X (hN z1 k) ex k 2 [oN z1 k, nullO] (hN_len ..) rfl (by omega) (by omega) 1 (by omega) mrkO (may_mrk _))
      have E1 : Hid (hN z1 k ++ [⟨false, false, false, [oN z1 k, mrkO], []⟩] = hN z1 (k + 1)) := hid' rfl
      have E2 : Hid (oN z1 (k + 1) = ⟨9, exN z1 k, (k : Int), 0, 2, ⟨#[]⟩⟩) := hid' rfl
      have E3 : Hid (wN z1 L (k + 1) = if k + 21 = L then arrL else if L ≤ k + 20 then (if exN z1 k = true then 123 else 91) :: (wN z1 L k ++ (32 :: mrkL ++ [if exN z1 k = true then 125 else 93])) else wN z1 L k) := hid' rfl
      have hex : k < len → ∃ b off, ba = some ⟨b, off, none⟩ ∧ b < w.heap.size ∧ w.cell? ⟨b, off + k, none⟩ = some (.bool (exN z1 k)) := fun hk2 => by
        obtain ⟨b, off, e1, e2, e3⟩ := HBC.out (by omega)
        exact ⟨b, off, e1, e2, e3 k hk2⟩
      have hno : ¬ k < len → exN z1 k = false := fun hk2 => by
        unfold exN
        rw [List.getD_eq_getElem?_getD, List.getElem?_eq_none (by omega)]; rfl
      generalize exN z1 k = ex at *
      generalize hN z1 k = H0 at *
      generalize oN z1 k = x at *
      obtain ⟨xk, xe, xn, xa, xl, xs⟩ := x
      by_cases hkl : k < len
      · obtain ⟨b, off, rfl, hb, hc⟩ := hex hkl
        have hkl' : (k : Int) < len := by omega
        have hkc : (k : Int) < cap := by omega
        clear hno hex
        cases ex
        · go_wp2_with fail
          refine (at_array A5 2 ha.out).mono ?_
          rintro e w6 ⟨rfl, A6⟩
          have Q6 := cells_of (A6.box _ (List.mem_cons_self ..))
          have q6 := blk_lt (A6.box _ (List.mem_cons_self ..))
          have c6 : w6.cell? ⟨b, off + k, none⟩ = some (.bool false) := A6.chg.old hc
          have b6 : b < w6.heap.size := Nat.lt_of_lt_of_le hb A6.chg.size
          simp only at Q6 q6
          clear A5 hc hb
          go_wp2_with fail
          have A8 := A6.alloc (.cells #[.int .i64 9, .bool false, .int .i64 k, .int .i64 0, .int .i64 2, .string ⟨#[]⟩] 27)
          refine (at_set A8 _ ((0 : Nat) : Int) _ (S1.out false)).mono ?_
          rintro e w8 ⟨rfl, A9⟩
          clear A6 A8 Q6 q6 c6 b6
          have R9 := cells_of (A9.box _ (List.mem_cons_self ..))
          have v9 := blk_lt (A9.box _ (List.mem_cons_self ..))
          have Q9 := cells_of (A9.box _ (List.mem_cons_of_mem _ (List.mem_cons_self ..)))
          have q9 := blk_lt (A9.box _ (List.mem_cons_of_mem _ (List.mem_cons_self ..)))
          simp only at R9 v9 Q9 q9
          go_wp2_with fail
          refine (at_set A9 _ ((1 : Nat) : Int) _ (S2.out false)).mono ?_
          rintro e w9 ⟨rfl, A10⟩
          clear A9 R9 v9 Q9 q9
          have R9 := cells_of (A10.box _ (List.mem_cons_self ..))
          have v9 := blk_lt (A10.box _ (List.mem_cons_self ..))
          have Q9 := cells_of (A10.box _ (List.mem_cons_of_mem _ (List.mem_cons_self ..)))
          have Z9 := free_of (A10.box _ (List.mem_cons_of_mem _ (List.mem_cons_self ..)))
          have q9 := blk_lt (A10.box _ (List.mem_cons_of_mem _ (List.mem_cons_self ..)))
          simp only at R9 v9 Q9 q9 Z9
          have A12 := ((((((A10.perm (List.Perm.swap _ _ _)).put 0 (.int .i64 9)).put 1 (.bool false)).put 2 (.int .i64 (k : Int))).put 3 (.int .i64 0)).put 4 (.int .i64 2)).put 5 (.string ⟨#[]⟩)
          simp only [List.setIfInBounds_toArray, List.set_cons_zero, List.set_cons_succ] at A12
          rw [E1.out] at A12
          have A13 := hid' (A12.keep (K' := [(ab, obox ⟨9, false, (k : Int), 0, 2, ⟨#[]⟩⟩)]) (List.Sublist.cons_cons _ (List.nil_sublist _)))
          rw [← E2.out] at A13
          clear A10 A12
          by_cases cA : k + 21 = L
          · have HW := hid' (E3.out.trans (if_pos cA))
            have kA : ((k : Int) == (L : Int) - 20 - 1) = true := by simp; omega
            have kB : ¬ (L : Int) - 20 ≤ k := by omega
            go_wp2_with fail
            go_roundw
            case rel => exact ⟨k + 1, by omega, by go_num, by rw [HW.out], A13.out⟩
            case measure => simp [intOf]; omega
          · have kA : ((k : Int) == (L : Int) - 20 - 1) = false := by simp; omega
            by_cases cB : L ≤ k + 20
            · have kB : (L : Int) - 20 ≤ k := by omega
              have HW := hid' ((E3.out.trans (if_neg cA)).trans (if_pos cB))
              have hwl := wN_len z1 L k
              have g1 : ¬ 9223372036854775807 < 1 + (wN z1 L k).length := by omega
              have g2 : ¬ 9223372036854775807 < 1 + (wN z1 L k).length + 7 := by omega
              have g3 : ¬ 9223372036854775807 < 1 + (wN z1 L k).length + 7 + 1 := by omega
              clear hwl
              by_cases k0 : k = 0
              · have k0' : ((k : Int) == 0) = true := by simp; omega
                have h20 : ¬ (20 : Int) < L := by omega
                clear k0
                go_wp2_with fail
                go_roundw
                case rel => exact ⟨k + 1, by omega, by go_num, by rw [HW.out, brk_eq]; rfl, (A13.out.alloc _).keep (List.sublist_cons_self _ _)⟩
                case measure => simp [intOf]; omega
              · have k0' : ((k : Int) == 0) = false := by simp; omega
                clear k0
                go_wp2_with fail
                go_roundw
                case rel => exact ⟨k + 1, by omega, by go_num, by rw [HW.out, brk_eq]; rfl, (A13.out.alloc _).keep (List.sublist_cons_self _ _)⟩
                case measure => simp [intOf]; omega
            · have kB : ¬ (L : Int) - 20 ≤ k := by omega
              have HW := hid' ((E3.out.trans (if_neg cA)).trans (if_neg cB))
              by_cases k0 : k = 0
              · have k0' : ((k : Int) == 0) = true := by simp; omega
                have h20 : (20 : Int) < L := by omega
                have h21 : ¬ (L : Int) - 20 - 1 < 0 := by omega
                clear k0
                go_wp2_with fail
                go_roundw
                case rel => exact ⟨k + 1, by omega, by go_num, by rw [HW.out], A13.out⟩
                case measure => simp [intOf]; omega
              · have k0' : ((k : Int) == 0) = false := by simp; omega
                clear k0
                go_wp2_with fail
                go_roundw
                case rel => exact ⟨k + 1, by omega, by go_num, by rw [HW.out], A13.out⟩
                case measure => simp [intOf]; omega
        · go_wp2_with fail
          refine (at_array A5 2 ha.out).mono ?_
          rintro e w6 ⟨rfl, A6⟩
          have Q6 := cells_of (A6.box _ (List.mem_cons_self ..))
          have q6 := blk_lt (A6.box _ (List.mem_cons_self ..))
          have c6 : w6.cell? ⟨b, off + k, none⟩ = some (.bool true) := A6.chg.old hc
          have b6 : b < w6.heap.size := Nat.lt_of_lt_of_le hb A6.chg.size
          simp only at Q6 q6
          clear A5 hc hb
          go_wp2_with fail
          have A8 := A6.alloc (.cells #[.int .i64 9, .bool true, .int .i64 k, .int .i64 0, .int .i64 2, .string ⟨#[]⟩] 27)
          refine (at_set A8 _ ((0 : Nat) : Int) _ (S1.out true)).mono ?_
          rintro e w8 ⟨rfl, A9⟩
          clear A6 A8 Q6 q6 c6 b6
          have R9 := cells_of (A9.box _ (List.mem_cons_self ..))
          have v9 := blk_lt (A9.box _ (List.mem_cons_self ..))
          have Q9 := cells_of (A9.box _ (List.mem_cons_of_mem _ (List.mem_cons_self ..)))
          have q9 := blk_lt (A9.box _ (List.mem_cons_of_mem _ (List.mem_cons_self ..)))
          simp only at R9 v9 Q9 q9
          go_wp2_with fail
          refine (at_set A9 _ ((1 : Nat) : Int) _ (S2.out true)).mono ?_
          rintro e w9 ⟨rfl, A10⟩
          clear A9 R9 v9 Q9 q9
          have R9 := cells_of (A10.box _ (List.mem_cons_self ..))
          have v9 := blk_lt (A10.box _ (List.mem_cons_self ..))
          have Q9 := cells_of (A10.box _ (List.mem_cons_of_mem _ (List.mem_cons_self ..)))
          have Z9 := free_of (A10.box _ (List.mem_cons_of_mem _ (List.mem_cons_self ..)))
          have q9 := blk_lt (A10.box _ (List.mem_cons_of_mem _ (List.mem_cons_self ..)))
          simp only at R9 v9 Q9 q9 Z9
          have A12 := ((((((A10.perm (List.Perm.swap _ _ _)).put 0 (.int .i64 9)).put 1 (.bool true)).put 2 (.int .i64 (k : Int))).put 3 (.int .i64 0)).put 4 (.int .i64 2)).put 5 (.string ⟨#[]⟩)
          simp only [List.setIfInBounds_toArray, List.set_cons_zero, List.set_cons_succ] at A12
          rw [E1.out] at A12
          have A13 := hid' (A12.keep (K' := [(ab, obox ⟨9, true, (k : Int), 0, 2, ⟨#[]⟩⟩)]) (List.Sublist.cons_cons _ (List.nil_sublist _)))
          rw [← E2.out] at A13
          clear A10 A12
          by_cases cA : k + 21 = L
          · have HW := hid' (E3.out.trans (if_pos cA))
            have kA : ((k : Int) == (L : Int) - 20 - 1) = true := by simp; omega
            have kB : ¬ (L : Int) - 20 ≤ k := by omega
            go_wp2_with fail
            go_roundw
            case rel => exact ⟨k + 1, by omega, by go_num, by rw [HW.out], A13.out⟩
            case measure => simp [intOf]; omega
          · have kA : ((k : Int) == (L : Int) - 20 - 1) = false := by simp; omega
            by_cases cB : L ≤ k + 20
            · have kB : (L : Int) - 20 ≤ k := by omega
              have HW := hid' ((E3.out.trans (if_neg cA)).trans (if_pos cB))
              have hwl := wN_len z1 L k
              have g1 : ¬ 9223372036854775807 < 1 + (wN z1 L k).length := by omega
              have g2 : ¬ 9223372036854775807 < 1 + (wN z1 L k).length + 7 := by omega
              have g3 : ¬ 9223372036854775807 < 1 + (wN z1 L k).length + 7 + 1 := by omega
              clear hwl
              by_cases k0 : k = 0
              · have k0' : ((k : Int) == 0) = true := by simp; omega
                have h20 : ¬ (20 : Int) < L := by omega
                clear k0
                go_wp2_with fail
                go_roundw
                case rel => exact ⟨k + 1, by omega, by go_num, by rw [HW.out, brk_eq]; rfl, (A13.out.alloc _).keep (List.sublist_cons_self _ _)⟩
                case measure => simp [intOf]; omega
              · have k0' : ((k : Int) == 0) = false := by simp; omega
                clear k0
                go_wp2_with fail
                go_roundw
                case rel => exact ⟨k + 1, by omega, by go_num, by rw [HW.out, brk_eq]; rfl, (A13.out.alloc _).keep (List.sublist_cons_self _ _)⟩
                case measure => simp [intOf]; omega
            · have kB : ¬ (L : Int) - 20 ≤ k := by omega
              have HW := hid' ((E3.out.trans (if_neg cA)).trans (if_neg cB))
              by_cases k0 : k = 0
              · have k0' : ((k : Int) == 0) = true := by simp; omega
                have h20 : (20 : Int) < L := by omega
                have h21 : ¬ (L : Int) - 20 - 1 < 0 := by omega
                clear k0
                go_wp2_with fail
                go_roundw
                case rel => exact ⟨k + 1, by omega, by go_num, by rw [HW.out], A13.out⟩
                case measure => simp [intOf]; omega
              · have k0' : ((k : Int) == 0) = false := by simp; omega
                clear k0
                go_wp2_with fail
                go_roundw
                case rel => exact ⟨k + 1, by omega, by go_num, by rw [HW.out], A13.out⟩
                case measure => simp [intOf]; omega
      · have hkl' : ¬ (k : Int) < len := by omega
        obtain rfl := hno hkl
        clear hno hex
        go_wp2_with fail
        refine (at_array A5 2 ha.out).mono ?_
        rintro e w6 ⟨rfl, A6⟩
        have Q6 := cells_of (A6.box _ (List.mem_cons_self ..))
        have q6 := blk_lt (A6.box _ (List.mem_cons_self ..))
        simp only at Q6 q6
        clear A5
        go_wp2_with fail
        have A8 := A6.alloc (.cells #[.int .i64 9, .bool false, .int .i64 k, .int .i64 0, .int .i64 2, .string ⟨#[]⟩] 27)
        refine (at_set A8 _ ((0 : Nat) : Int) _ (S1.out false)).mono ?_
        rintro e w8 ⟨rfl, A9⟩
        clear A6 A8 Q6 q6 
        have R9 := cells_of (A9.box _ (List.mem_cons_self ..))
        have v9 := blk_lt (A9.box _ (List.mem_cons_self ..))
        have Q9 := cells_of (A9.box _ (List.mem_cons_of_mem _ (List.mem_cons_self ..)))
        have q9 := blk_lt (A9.box _ (List.mem_cons_of_mem _ (List.mem_cons_self ..)))
        simp only at R9 v9 Q9 q9
        go_wp2_with fail
        refine (at_set A9 _ ((1 : Nat) : Int) _ (S2.out false)).mono ?_
        rintro e w9 ⟨rfl, A10⟩
        clear A9 R9 v9 Q9 q9
        have R9 := cells_of (A10.box _ (List.mem_cons_self ..))
        have v9 := blk_lt (A10.box _ (List.mem_cons_self ..))
        have Q9 := cells_of (A10.box _ (List.mem_cons_of_mem _ (List.mem_cons_self ..)))
        have Z9 := free_of (A10.box _ (List.mem_cons_of_mem _ (List.mem_cons_self ..)))
        have q9 := blk_lt (A10.box _ (List.mem_cons_of_mem _ (List.mem_cons_self ..)))
        simp only at R9 v9 Q9 q9 Z9
        have A12 := ((((((A10.perm (List.Perm.swap _ _ _)).put 0 (.int .i64 9)).put 1 (.bool false)).put 2 (.int .i64 (k : Int))).put 3 (.int .i64 0)).put 4 (.int .i64 2)).put 5 (.string ⟨#[]⟩)
        simp only [List.setIfInBounds_toArray, List.set_cons_zero, List.set_cons_succ] at A12
        rw [E1.out] at A12
        have A13 := hid' (A12.keep (K' := [(ab, obox ⟨9, false, (k : Int), 0, 2, ⟨#[]⟩⟩)]) (List.Sublist.cons_cons _ (List.nil_sublist _)))
        rw [← E2.out] at A13
        clear A10 A12
        by_cases cA : k + 21 = L
        · have HW := hid' (E3.out.trans (if_pos cA))
          have kA : ((k : Int) == (L : Int) - 20 - 1) = true := by simp; omega
          have kB : ¬ (L : Int) - 20 ≤ k := by omega
          go_wp2_with fail
          go_roundw
          case rel => exact ⟨k + 1, by omega, by go_num, by rw [HW.out], A13.out⟩
          case measure => simp [intOf]; omega
        · have kA : ((k : Int) == (L : Int) - 20 - 1) = false := by simp; omega
          by_cases cB : L ≤ k + 20
          · have kB : (L : Int) - 20 ≤ k := by omega
            have HW := hid' ((E3.out.trans (if_neg cA)).trans (if_pos cB))
            have hwl := wN_len z1 L k
            have g1 : ¬ 9223372036854775807 < 1 + (wN z1 L k).length := by omega
            have g2 : ¬ 9223372036854775807 < 1 + (wN z1 L k).length + 7 := by omega
            have g3 : ¬ 9223372036854775807 < 1 + (wN z1 L k).length + 7 + 1 := by omega
            clear hwl
            by_cases k0 : k = 0
            · have k0' : ((k : Int) == 0) = true := by simp; omega
              have h20 : ¬ (20 : Int) < L := by omega
              clear k0
              go_wp2_with fail
              go_roundw
              case rel => exact ⟨k + 1, by omega, by go_num, by rw [HW.out, brk_eq]; rfl, (A13.out.alloc _).keep (List.sublist_cons_self _ _)⟩
              case measure => simp [intOf]; omega
            · have k0' : ((k : Int) == 0) = false := by simp; omega
              clear k0
              go_wp2_with fail
              go_roundw
              case rel => exact ⟨k + 1, by omega, by go_num, by rw [HW.out, brk_eq]; rfl, (A13.out.alloc _).keep (List.sublist_cons_self _ _)⟩
              case measure => simp [intOf]; omega
          · have kB : ¬ (L : Int) - 20 ≤ k := by omega
            have HW := hid' ((E3.out.trans (if_neg cA)).trans (if_neg cB))
            by_cases k0 : k = 0
            · have k0' : ((k : Int) == 0) = true := by simp; omega
              have h20 : (20 : Int) < L := by omega
              have h21 : ¬ (L : Int) - 20 - 1 < 0 := by omega
              clear k0
              go_wp2_with fail
              go_roundw
              case rel => exact ⟨k + 1, by omega, by go_num, by rw [HW.out], A13.out⟩
              case measure => simp [intOf]; omega
            · have k0' : ((k : Int) == 0) = false := by simp; omega
              clear k0
              go_wp2_with fail
              go_roundw
              case rel => exact ⟨k + 1, by omega, by go_num, by rw [HW.out], A13.out⟩
              case measure => simp [intOf]; omega
    obtain rfl : k = L := by omega
    obtain ⟨hT, hG⟩ := say_N z1 k hL2 k (Nat.le_refl _) (by omega)
    rw [show 20 - (k - k) = 20 by omega] at hT hG
    have hF := at_full A5 (List.mem_cons_self ..) (oN z1 k) hG
    have hwl := wN_len z1 k k
    rw [hT, List.take_of_length_le (by omega)] at hF
    generalize (⟨(wN z1 k k).toArray⟩ : ByteArray) = B at *
    have HF := hid' hF
    have R5 := cells_of (A5.box _ (List.mem_cons_self ..))
    have v5 := blk_lt (A5.box _ (List.mem_cons_self ..))
    generalize oN z1 k = x at *
    obtain ⟨xk, xe, xn, xa, xl, xs⟩ := x
    simp only at R5 v5
    clear hF A5 hT hG hwl
    go_wp2_with fail
    refine HF.out.mono ?_
    rintro e w6 ⟨rfl, A6⟩
    have HA := hid' A6
    clear A6
    go_wp2_with fail
    go_ret
    exact ⟨by simp, HA.out.chg⟩
end Go.Proofs.Ytbjlognbaplgpaa
