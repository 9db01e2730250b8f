/- Walk: tympanlaw17.SayReads. -/
import Derived.Test.YtaagobmnogmofaaZSrp
import Derived.Test.YtaagobmnogmofaaZTmy
import Derived.Test.YtaagobmnogmofaaZTeq
import Derived.Test.YtaagobmnogmofaaZSayc
import Derived.Test.YtaagobmnogmofaaZPlc
namespace Go.Proofs.Ytaagobmnogmofaa
open Go.RowKit

theorem may_100 (s : ByteArray) (h : mayT ⟨4, 0, s, 0⟩ = true) : s.size ≤ 100 := by
  have h' : (decide (s.size ≤ 100) && decide (regL s.toList = s.size)) = true := h
  rw [Bool.and_eq_true] at h'
  exact of_decide_eq_true h'.1
theorem may_100e (s : ByteArray) (h : mayT ⟨3, 0, s, 0⟩ = true) : s.size ≤ 100 := by
  have h' : (decide ((readF s.toList).2.2 = 3) && decide (s.size ≠ 0) && decide (s.size ≤ 100) && decide (regL s.toList = s.size)) = true := h
  simp only [Bool.and_eq_true] at h'
  exact of_decide_eq_true h'.1.2
set_option maxRecDepth 100000 in
set_option maxHeartbeats 1000000 in
theorem sayReads_0 (a0 : Int) (a1 : ByteArray) (a2 : Int) (hl : a1.size ≤ 200) (l0 : 0 ≤ a2) (u0 : a2 < 256) (hk : a2 % 5 = 0) (w : World) :
    Calls Try.prog 7 #[.int .i64 a0, .string a1, .int .u8 a2] w fun e w' => e = .returned (.bool true) ∧ Chg NoB w w' := by
  have d1 : decide (200 < (a1.size : Int)) = false := by simp; omega
  have hm := IntWalk.i64_in (a1.size) (by omega)
  obtain ⟨r, hr⟩ : ∃ r, a0 % 4294967295 = r := ⟨_, rfl⟩
  have r0 : 0 ≤ r := by rw [← hr]; exact Int.emod_nonneg _ (by decide)
  have r1 : r < 4294967295 := by rw [← hr]; exact Int.emod_lt_of_pos _ (by decide)
  have HPL := hid' (fun w' => place_any a0 4294967295 (by decide) (by decide) w')
  rw [hr] at HPL
  obtain ⟨n, hn⟩ : ∃ n, r - 2147483647 = n := ⟨_, rfl⟩
  have hw := (IntWalk.i64_in (r - 2147483647) (by omega)).trans hn
  have h0 : -2147483647 ≤ n := by omega
  have h1 : n ≤ 2147483647 := by omega
  have hv : mayT ⟨1, n, ⟨#[]⟩, 0⟩ = true := by
    show (decide ((⟨#[]⟩ : ByteArray).size = 0) && decide (-2147483647 ≤ n) && decide (n ≤ 2147483647)) = true
    rw [decide_eq_true h0, decide_eq_true h1]; rfl
  have HM0 := hid' (fun w' => tmay_1 n h0 h1 w')
  have HFU := hid' (fun (w w' : World) (hp : Nat) (K : List (Nat × Obj)) (A' : Ats w w' [(hp, [])] K) => full_int (hp := hp) A' n h0 h1)
  have PL : mayT ⟨1, n, ⟨#[]⟩, 0⟩ = true → (bytesB (printL ⟨1, n, ⟨#[]⟩, 0⟩)).size ≤ 1000 := fun _ => by
    have := decL_short n h0 h1
    show (intL n).length ≤ 1000
    omega
  go_enter Try.func7, Try.ntmps7
  go_wp2_with fail
  refine (known17_any w).mono ?_
  rintro e w1 ⟨rfl, X1⟩
  go_wp2_with fail
  refine (at_hnew (Ats.start X1)).mono ?_
  rintro e w2 ⟨hp, rfl, A0⟩
  go_wp2_with fail
  refine (HPL.out _).mono ?_
  rintro e w3 ⟨rfl, rfl⟩
  go_wp2_with fail
  have HM := hid' (fun w' => HM0.out w')
  have A2 := (A0.alloc (obox ⟨3, false, n, 0, 0, ⟨#[]⟩⟩)).alloc (tokBox 1 n ⟨#[]⟩ 0)
  rw [show (w2.alloc (obox ⟨3, false, n, 0, 0, ⟨#[]⟩⟩)).heap.size = w2.heap.size + 1 by simp] at A2
  refine (HM.out _).mono ?_
  rintro e w4 ⟨rfl, X4⟩
  have A3 := A2.pure X4
  clear A0 A2 X1 X4
  generalize w2.heap.size + 1 = tb at *
  generalize w2.heap.size = ob at *
  have R1 := cells_of (A3.box _ (List.mem_cons_self ..))
  have l1 := blk_lt (A3.box _ (List.mem_cons_self ..))
  have R2 := cells_of (A3.box _ (List.mem_cons_of_mem _ (List.mem_cons_self ..)))
  have l2 := blk_lt (A3.box _ (List.mem_cons_of_mem _ (List.mem_cons_self ..)))
  simp only at R1 l1 R2 l2
  have HF := hid' (fun (w' : World) (A' : Ats w w' [(hp, [])] [(tb, tokBox 1 n ⟨#[]⟩ 0), (ob, obox ⟨3, false, n, 0, 0, ⟨#[]⟩⟩)]) => HFU.out _ _ _ _ A')
  have HA := hid' (fun w' => all_any (bytesB (printL ⟨1, n, ⟨#[]⟩, 0⟩)) (Nat.le_trans (PL hv) (by decide)) w')
  rw [bytesB_lst, all_back ⟨1, n, ⟨#[]⟩, 0⟩ hv (Nat.le_trans (PL hv) (by decide))] at HA
  generalize bytesB (printL ⟨1, n, ⟨#[]⟩, 0⟩) = B at *
  have e1 : eqT ⟨1, n, ⟨#[]⟩, 0⟩ ⟨1, n, ⟨#[]⟩, 0⟩ = true := eqT_self _
  have hA3 := hid' A3
  clear A3 hv hl
  go_wp2_with fail
  refine (HF.out _ hA3.out).mono ?_
  rintro e w5 ⟨rfl, A5⟩
  go_wp2_with fail
  refine (HA.out _).mono ?_
  rintro e w6 ⟨vv, rfl, X6, hown, -⟩
  obtain ⟨a, cap, rfl, hcap, hc⟩ := ToksAt.of_own hown
  obtain ⟨b, off, rfl, hbl, hc⟩ := hc (by simp)
  obtain ⟨c1, c2, c3, c4⟩ := hc 0 _ rfl
  have A6 := A5.pure X6
  have R6 := cells_of (A6.box _ (List.mem_cons_self ..))
  have l6 := blk_lt (A6.box _ (List.mem_cons_self ..))
  have HC := hid' A6.chg
  simp only [List.length_cons, List.length_nil, Nat.zero_add, Nat.zero_mul, Nat.add_zero] at hcap c1 c2 c3 c4
  simp only at R6 l6
  clear hc hown A5 A6 X6 HF HA hA3 R1 R2 l1 l2
  go_wp2_with fail
  go_quiet (fail)
  go_wp2_with fail
  go_ret
  exact ⟨rfl, HC.out.drewN _⟩
set_option maxRecDepth 100000 in
set_option maxHeartbeats 1000000 in
theorem sayReads_1 (a0 : Int) (a1 : ByteArray) (a2 : Int) (hl : a1.size ≤ 200) (l0 : 0 ≤ a2) (u0 : a2 < 256) (hk : a2 % 5 = 1) (w : World) :
    Calls Try.prog 7 #[.int .i64 a0, .string a1, .int .u8 a2] w fun e w' => e = .returned (.bool true) ∧ Chg NoB w w' := by
  have d1 : decide (200 < (a1.size : Int)) = false := by simp; omega
  have hm := IntWalk.i64_in (a1.size) (by omega)
  obtain ⟨r, hr⟩ : ∃ r, a0 % 2147483647 = r := ⟨_, rfl⟩
  have r0 : 0 ≤ r := by rw [← hr]; exact Int.emod_nonneg _ (by decide)
  have r1 : r < 2147483647 := by rw [← hr]; exact Int.emod_lt_of_pos _ (by decide)
  have HPL := hid' (fun w' => place_any a0 2147483647 (by decide) (by decide) w')
  rw [hr] at HPL
  obtain ⟨n, hn⟩ : ∃ n, r - 1073741823 = n := ⟨_, rfl⟩
  have hw := (IntWalk.i64_in (r - 1073741823) (by omega)).trans hn
  have h0 : -1073741823 ≤ n := by omega
  have h1 : n ≤ 1073741823 := by omega
  have hv : mayT ⟨2, n, ⟨#[]⟩, 0⟩ = true := by
    show (decide ((⟨#[]⟩ : ByteArray).size = 0) && decide (-1073741823 ≤ n) && decide (n ≤ 1073741823)) = true
    rw [decide_eq_true h0, decide_eq_true h1]; rfl
  have HM0 := hid' (fun w' => tmay_2 n h0 h1 w')
  have HFU := hid' (fun (w w' : World) (hp : Nat) (K : List (Nat × Obj)) (A' : Ats w w' [(hp, [])] K) => full_fix (hp := hp) A' n h0 h1)
  have PL : mayT ⟨2, n, ⟨#[]⟩, 0⟩ = true → (bytesB (printL ⟨2, n, ⟨#[]⟩, 0⟩)).size ≤ 1000 := fun _ => by
    have := fix_len n h0 h1
    show (fixL n).length ≤ 1000
    omega
  go_enter Try.func7, Try.ntmps7
  go_wp2_with fail
  refine (known17_any w).mono ?_
  rintro e w1 ⟨rfl, X1⟩
  go_wp2_with fail
  refine (at_hnew (Ats.start X1)).mono ?_
  rintro e w2 ⟨hp, rfl, A0⟩
  go_wp2_with fail
  refine (HPL.out _).mono ?_
  rintro e w3 ⟨rfl, rfl⟩
  go_wp2_with fail
  have HM := hid' (fun w' => HM0.out w')
  have A2 := (A0.alloc (obox ⟨4, false, n, 0, 0, ⟨#[]⟩⟩)).alloc (tokBox 2 n ⟨#[]⟩ 0)
  rw [show (w2.alloc (obox ⟨4, false, n, 0, 0, ⟨#[]⟩⟩)).heap.size = w2.heap.size + 1 by simp] at A2
  refine (HM.out _).mono ?_
  rintro e w4 ⟨rfl, X4⟩
  have A3 := A2.pure X4
  clear A0 A2 X1 X4
  generalize w2.heap.size + 1 = tb at *
  generalize w2.heap.size = ob at *
  have R1 := cells_of (A3.box _ (List.mem_cons_self ..))
  have l1 := blk_lt (A3.box _ (List.mem_cons_self ..))
  have R2 := cells_of (A3.box _ (List.mem_cons_of_mem _ (List.mem_cons_self ..)))
  have l2 := blk_lt (A3.box _ (List.mem_cons_of_mem _ (List.mem_cons_self ..)))
  simp only at R1 l1 R2 l2
  have HF := hid' (fun (w' : World) (A' : Ats w w' [(hp, [])] [(tb, tokBox 2 n ⟨#[]⟩ 0), (ob, obox ⟨4, false, n, 0, 0, ⟨#[]⟩⟩)]) => HFU.out _ _ _ _ A')
  have HA := hid' (fun w' => all_any (bytesB (printL ⟨2, n, ⟨#[]⟩, 0⟩)) (Nat.le_trans (PL hv) (by decide)) w')
  rw [bytesB_lst, all_back ⟨2, n, ⟨#[]⟩, 0⟩ hv (Nat.le_trans (PL hv) (by decide))] at HA
  generalize bytesB (printL ⟨2, n, ⟨#[]⟩, 0⟩) = B at *
  have e1 : eqT ⟨2, n, ⟨#[]⟩, 0⟩ ⟨2, n, ⟨#[]⟩, 0⟩ = true := eqT_self _
  have hA3 := hid' A3
  clear A3 hv hl
  go_wp2_with fail
  refine (HF.out _ hA3.out).mono ?_
  rintro e w5 ⟨rfl, A5⟩
  go_wp2_with fail
  refine (HA.out _).mono ?_
  rintro e w6 ⟨vv, rfl, X6, hown, -⟩
  obtain ⟨a, cap, rfl, hcap, hc⟩ := ToksAt.of_own hown
  obtain ⟨b, off, rfl, hbl, hc⟩ := hc (by simp)
  obtain ⟨c1, c2, c3, c4⟩ := hc 0 _ rfl
  have A6 := A5.pure X6
  have R6 := cells_of (A6.box _ (List.mem_cons_self ..))
  have l6 := blk_lt (A6.box _ (List.mem_cons_self ..))
  have HC := hid' A6.chg
  simp only [List.length_cons, List.length_nil, Nat.zero_add, Nat.zero_mul, Nat.add_zero] at hcap c1 c2 c3 c4
  simp only at R6 l6
  clear hc hown A5 A6 X6 HF HA hA3 R1 R2 l1 l2
  go_wp2_with fail
  go_quiet (fail)
  go_wp2_with fail
  go_ret
  exact ⟨rfl, HC.out.drewN _⟩
set_option maxRecDepth 100000 in
set_option maxHeartbeats 1000000 in
theorem sayReads_2 (a0 : Int) (a1 : ByteArray) (a2 : Int) (hl : a1.size ≤ 200) (l0 : 0 ≤ a2) (u0 : a2 < 256) (hk : a2 % 5 = 2) (w : World) :
    Calls Try.prog 7 #[.int .i64 a0, .string a1, .int .u8 a2] w fun e w' => e = .returned (.bool true) ∧ Chg NoB w w' := by
  have d1 : decide (200 < (a1.size : Int)) = false := by simp; omega
  have hm := IntWalk.i64_in (a1.size) (by omega)
  have HS := string_new a1 hl
  have HFU := hid' (fun (w w' : World) (hp : Nat) (K : List (Nat × Obj)) (A' : Ats w w' [(hp, [txt a1.toList])] K) => full_str (hp := hp) a1 hl (List.mem_cons_self ..) A')
  rw [show (⟨8, false, 0, 0, a1.size, ⟨#[]⟩⟩ : O) = strO 0 a1.size from rfl] at HFU
  generalize strO 0 a1.size = so at *
  obtain ⟨rk, rx, rn, rp, rl, rs⟩ := so
  have hv : mayT ⟨6, 0, a1, 0⟩ = true := by
    show decide (a1.size ≤ 4000) = true
    exact decide_eq_true (by omega)
  have PL : mayT ⟨6, 0, a1, 0⟩ = true → (bytesB (printL ⟨6, 0, a1, 0⟩)).size ≤ 1000 := fun _ => by
    show (40 :: (quoteQ a1.toList ++ [41])).length ≤ 1000
    have := quote_len a1.toList
    rw [size_lst] at this
    simp; omega
  go_enter Try.func7, Try.ntmps7
  go_wp2_with fail
  refine (known17_any w).mono ?_
  rintro e w1 ⟨rfl, X1⟩
  go_wp2_with fail
  refine (at_hnew (Ats.start X1)).mono ?_
  rintro e w2 ⟨hp, rfl, A0⟩
  go_wp2_with fail

  have HM := hid' (fun w' => tmay_6 a1 (by omega) w')
  have A2 := (A0.alloc (obox ⟨0, false, 0, 0, 0, ⟨#[]⟩⟩)).alloc (tokBox 6 0 a1 0)
  rw [show (w2.alloc (obox ⟨0, false, 0, 0, 0, ⟨#[]⟩⟩)).heap.size = w2.heap.size + 1 by simp] at A2
  generalize hW : (w2.alloc _).alloc _ = w3 at *
  clear hW
  generalize w2.heap.size + 1 = tb at *
  generalize w2.heap.size = ob at *
  refine (at_string A2 a1 HS).mono ?_
  rintro e w4 ⟨rfl, A3⟩
  clear A0 A2 X1
  have R1 := cells_of (A3.box _ (List.mem_cons_self ..))
  have l1 := blk_lt (A3.box _ (List.mem_cons_self ..))
  have R2 := cells_of (A3.box _ (List.mem_cons_of_mem _ (List.mem_cons_self ..)))
  have l2 := blk_lt (A3.box _ (List.mem_cons_of_mem _ (List.mem_cons_self ..)))
  have Z2 := free_of (A3.box _ (List.mem_cons_of_mem _ (List.mem_cons_self ..)))
  simp only at R1 l1 R2 l2 Z2
  have A4 := ((((((A3.perm (List.Perm.swap _ _ _)).put 0 (.int .i64 rk)).put 1 (.bool rx)).put 2 (.int .i64 rn)).put 3 (.int .i64 rp)).put 4 (.int .i64 rl)).put 5 (.string rs)
  simp only [List.setIfInBounds_toArray, List.set_cons_zero, List.set_cons_succ] at A4
  have HA4 := hid' (A4.perm (List.Perm.swap _ _ _))
  clear A3 A4 R1 l1
  go_upto_region 22 with (fail)
  clear R2 l2 Z2
  generalize hW : ((((((w4.setCell ⟨ob, 0, none⟩ (.int .i64 rk)).setCell ⟨ob, 1, none⟩ (.bool rx)).setCell ⟨ob, 2, none⟩ (.int .i64 rn)).setCell ⟨ob, 3, none⟩ (.int .i64 rp)).setCell ⟨ob, 4, none⟩ (.int .i64 rl)).setCell ⟨ob, 5, none⟩ (.string rs)) = w5 at *
  clear hW
  have R1 := cells_of (HA4.out.box _ (List.mem_cons_self ..))
  have l1 := blk_lt (HA4.out.box _ (List.mem_cons_self ..))
  simp only at R1 l1
  go_wp2_with fail
  clear R1 l1
  refine (HM.out _).mono ?_
  rintro e w6 ⟨rfl, X6⟩
  have A3 := HA4.out.pure X6
  clear HA4 X6
  have R1 := cells_of (A3.box _ (List.mem_cons_self ..))
  have l1 := blk_lt (A3.box _ (List.mem_cons_self ..))
  have R2 := cells_of (A3.box _ (List.mem_cons_of_mem _ (List.mem_cons_self ..)))
  have l2 := blk_lt (A3.box _ (List.mem_cons_of_mem _ (List.mem_cons_self ..)))
  simp only at R1 l1 R2 l2
  have HF := hid' (fun (w' : World) (A' : Ats w w' [(hp, [txt a1.toList])] [(tb, tokBox 6 0 a1 0), (ob, obox ⟨rk, rx, rn, rp, rl, rs⟩)]) => HFU.out _ _ _ _ A')
  have HA := hid' (fun w' => all_any (bytesB (printL ⟨6, 0, a1, 0⟩)) (Nat.le_trans (PL hv) (by decide)) w')
  rw [bytesB_lst, all_back ⟨6, 0, a1, 0⟩ hv (Nat.le_trans (PL hv) (by decide))] at HA
  generalize bytesB (printL ⟨6, 0, a1, 0⟩) = B at *
  have e1 : eqT ⟨6, 0, a1, 0⟩ ⟨6, 0, a1, 0⟩ = true := eqT_self _
  have hA3 := hid' A3
  clear A3 hv hl
  go_wp2_with fail
  refine (HF.out _ hA3.out).mono ?_
  rintro e w5 ⟨rfl, A5⟩
  go_wp2_with fail
  refine (HA.out _).mono ?_
  rintro e w6 ⟨vv, rfl, X6, hown, -⟩
  obtain ⟨a, cap, rfl, hcap, hc⟩ := ToksAt.of_own hown
  obtain ⟨b, off, rfl, hbl, hc⟩ := hc (by simp)
  obtain ⟨c1, c2, c3, c4⟩ := hc 0 _ rfl
  have A6 := A5.pure X6
  have R6 := cells_of (A6.box _ (List.mem_cons_self ..))
  have l6 := blk_lt (A6.box _ (List.mem_cons_self ..))
  have HC := hid' A6.chg
  simp only [List.length_cons, List.length_nil, Nat.zero_add, Nat.zero_mul, Nat.add_zero] at hcap c1 c2 c3 c4
  simp only at R6 l6
  clear hc hown A5 A6 X6 HF HA hA3 R1 R2 l1 l2
  go_wp2_with fail
  go_quiet (fail)
  go_wp2_with fail
  go_ret
  exact ⟨rfl, HC.out.drewN _⟩
set_option maxRecDepth 100000 in
set_option maxHeartbeats 1000000 in
theorem sayReads_3 (a0 : Int) (a1 : ByteArray) (a2 : Int) (hl : a1.size ≤ 200) (l0 : 0 ≤ a2) (u0 : a2 < 256) (hk : a2 % 5 = 3) (w : World) :
    Calls Try.prog 7 #[.int .i64 a0, .string a1, .int .u8 a2] w fun e w' => e = .returned (.bool true) ∧ Chg NoB w w' := by
  have d1 : decide (200 < (a1.size : Int)) = false := by simp; omega
  have hm := IntWalk.i64_in (a1.size) (by omega)
  obtain ⟨v, hv⟩ : ∃ v, mayT ⟨4, 0, a1, 0⟩ = v := ⟨_, rfl⟩
  have hv' : (decide (a1.size ≤ 100) && decide (regL a1.toList = a1.size)) = v := hv
  have PL : mayT ⟨4, 0, a1, 0⟩ = true → (bytesB (printL ⟨4, 0, a1, 0⟩)).size ≤ 1000 := fun _ => by
    show (47 :: a1.toList).length ≤ 1000
    rw [List.length_cons, size_lst]; omega
  go_enter Try.func7, Try.ntmps7
  go_wp2_with fail
  refine (known17_any w).mono ?_
  rintro e w1 ⟨rfl, X1⟩
  go_wp2_with fail
  refine (at_hnew (Ats.start X1)).mono ?_
  rintro e w2 ⟨hp, rfl, A0⟩
  go_wp2_with fail
  have HM := hid' (fun w' => tmay_4 a1 (by omega) v hv' w')
  have A2 := (A0.alloc (obox ⟨5, false, 0, 0, 0, a1⟩)).alloc (tokBox 4 0 a1 0)
  rw [show (w2.alloc (obox ⟨5, false, 0, 0, 0, a1⟩)).heap.size = w2.heap.size + 1 by simp] at A2
  refine (HM.out _).mono ?_
  rintro e w4 ⟨rfl, X4⟩
  have A3 := A2.pure X4
  clear A0 A2 X1 X4
  generalize w2.heap.size + 1 = tb at *
  generalize w2.heap.size = ob at *
  have R1 := cells_of (A3.box _ (List.mem_cons_self ..))
  have l1 := blk_lt (A3.box _ (List.mem_cons_self ..))
  have R2 := cells_of (A3.box _ (List.mem_cons_of_mem _ (List.mem_cons_self ..)))
  have l2 := blk_lt (A3.box _ (List.mem_cons_of_mem _ (List.mem_cons_self ..)))
  simp only at R1 l1 R2 l2
  cases v with
  | false =>
    go_wp2_with fail
    go_ret
    exact ⟨rfl, A3.chg⟩
  | true =>
    have HF := hid' (fun (w' : World) (A' : Ats w w' [(hp, [])] [(tb, tokBox 4 0 a1 0), (ob, obox ⟨5, false, 0, 0, 0, a1⟩)]) => full_name (hp := hp) A' a1 (may_100 a1 hv))
    have HA := hid' (fun w' => all_any (bytesB (printL ⟨4, 0, a1, 0⟩)) (Nat.le_trans (PL hv) (by decide)) w')
    rw [bytesB_lst, all_back ⟨4, 0, a1, 0⟩ hv (Nat.le_trans (PL hv) (by decide))] at HA
    generalize bytesB (printL ⟨4, 0, a1, 0⟩) = B at *
    have e1 : eqT ⟨4, 0, a1, 0⟩ ⟨4, 0, a1, 0⟩ = true := eqT_self _
    have hA3 := hid' A3
    clear A3 hv hl
    go_wp2_with fail
    refine (HF.out _ hA3.out).mono ?_
    rintro e w5 ⟨rfl, A5⟩
    go_wp2_with fail
    refine (HA.out _).mono ?_
    rintro e w6 ⟨vv, rfl, X6, hown, -⟩
    obtain ⟨a, cap, rfl, hcap, hc⟩ := ToksAt.of_own hown
    obtain ⟨b, off, rfl, hbl, hc⟩ := hc (by simp)
    obtain ⟨c1, c2, c3, c4⟩ := hc 0 _ rfl
    have A6 := A5.pure X6
    have R6 := cells_of (A6.box _ (List.mem_cons_self ..))
    have l6 := blk_lt (A6.box _ (List.mem_cons_self ..))
    have HC := hid' A6.chg
    simp only [List.length_cons, List.length_nil, Nat.zero_add, Nat.zero_mul, Nat.add_zero] at hcap c1 c2 c3 c4
    simp only at R6 l6
    clear hc hown A5 A6 X6 HF HA hA3 R1 R2 l1 l2
    go_wp2_with fail
    go_quiet (fail)
    go_wp2_with fail
    go_ret
    exact ⟨rfl, HC.out.drewN _⟩
set_option maxRecDepth 100000 in
set_option maxHeartbeats 1000000 in
theorem sayReads_4 (a0 : Int) (a1 : ByteArray) (a2 : Int) (hl : a1.size ≤ 200) (l0 : 0 ≤ a2) (u0 : a2 < 256) (hk : a2 % 5 = 4) (w : World) :
    Calls Try.prog 7 #[.int .i64 a0, .string a1, .int .u8 a2] w fun e w' => e = .returned (.bool true) ∧ Chg NoB w w' := by
  have d1 : decide (200 < (a1.size : Int)) = false := by simp; omega
  have hm := IntWalk.i64_in (a1.size) (by omega)
  obtain ⟨v, hv⟩ : ∃ v, mayT ⟨3, 0, a1, 0⟩ = v := ⟨_, rfl⟩
  have hv' : (decide ((readF a1.toList).2.2 = 3) && decide (a1.size ≠ 0) && decide (a1.size ≤ 100) && decide (regL a1.toList = a1.size)) = v := hv
  have PL : mayT ⟨3, 0, a1, 0⟩ = true → (bytesB (printL ⟨3, 0, a1, 0⟩)).size ≤ 1000 := fun _ => by
    show a1.toList.length ≤ 1000
    rw [size_lst]; omega
  go_enter Try.func7, Try.ntmps7
  go_wp2_with fail
  refine (known17_any w).mono ?_
  rintro e w1 ⟨rfl, X1⟩
  go_wp2_with fail
  refine (at_hnew (Ats.start X1)).mono ?_
  rintro e w2 ⟨hp, rfl, A0⟩
  go_wp2_with fail
  have HM := hid' (fun w' => tmay_3 a1 (by omega) v hv' w')
  have A2 := (A0.alloc (obox ⟨5, true, 0, 0, 0, a1⟩)).alloc (tokBox 3 0 a1 0)
  rw [show (w2.alloc (obox ⟨5, true, 0, 0, 0, a1⟩)).heap.size = w2.heap.size + 1 by simp] at A2
  refine (HM.out _).mono ?_
  rintro e w4 ⟨rfl, X4⟩
  have A3 := A2.pure X4
  clear A0 A2 X1 X4
  generalize w2.heap.size + 1 = tb at *
  generalize w2.heap.size = ob at *
  have R1 := cells_of (A3.box _ (List.mem_cons_self ..))
  have l1 := blk_lt (A3.box _ (List.mem_cons_self ..))
  have R2 := cells_of (A3.box _ (List.mem_cons_of_mem _ (List.mem_cons_self ..)))
  have l2 := blk_lt (A3.box _ (List.mem_cons_of_mem _ (List.mem_cons_self ..)))
  simp only at R1 l1 R2 l2
  cases v with
  | false =>
    go_wp2_with fail
    go_ret
    exact ⟨rfl, A3.chg⟩
  | true =>
    have HF := hid' (fun (w' : World) (A' : Ats w w' [(hp, [])] [(tb, tokBox 3 0 a1 0), (ob, obox ⟨5, true, 0, 0, 0, a1⟩)]) => full_exec (hp := hp) A' a1 (may_100e a1 hv))
    have HA := hid' (fun w' => all_any (bytesB (printL ⟨3, 0, a1, 0⟩)) (Nat.le_trans (PL hv) (by decide)) w')
    rw [bytesB_lst, all_back ⟨3, 0, a1, 0⟩ hv (Nat.le_trans (PL hv) (by decide))] at HA
    generalize bytesB (printL ⟨3, 0, a1, 0⟩) = B at *
    have e1 : eqT ⟨3, 0, a1, 0⟩ ⟨3, 0, a1, 0⟩ = true := eqT_self _
    have hA3 := hid' A3
    clear A3 hv hl
    go_wp2_with fail
    refine (HF.out _ hA3.out).mono ?_
    rintro e w5 ⟨rfl, A5⟩
    go_wp2_with fail
    refine (HA.out _).mono ?_
    rintro e w6 ⟨vv, rfl, X6, hown, -⟩
    obtain ⟨a, cap, rfl, hcap, hc⟩ := ToksAt.of_own hown
    obtain ⟨b, off, rfl, hbl, hc⟩ := hc (by simp)
    obtain ⟨c1, c2, c3, c4⟩ := hc 0 _ rfl
    have A6 := A5.pure X6
    have R6 := cells_of (A6.box _ (List.mem_cons_self ..))
    have l6 := blk_lt (A6.box _ (List.mem_cons_self ..))
    have HC := hid' A6.chg
    simp only [List.length_cons, List.length_nil, Nat.zero_add, Nat.zero_mul, Nat.add_zero] at hcap c1 c2 c3 c4
    simp only at R6 l6
    clear hc hown A5 A6 X6 HF HA hA3 R1 R2 l1 l2
    go_wp2_with fail
    go_quiet (fail)
    go_wp2_with fail
    go_ret
    exact ⟨rfl, HC.out.drewN _⟩
set_option maxRecDepth 100000 in
theorem sayReads_any (a0 : Int) (a1 : ByteArray) (a2 : Int) (hs : a1.size ≤ maxLen) (l0 : 0 ≤ a2) (u0 : a2 < 256) (w : World) :
    Calls Try.prog 7 #[.int .i64 a0, .string a1, .int .u8 a2] w fun e w' => e = .returned (.bool true) ∧ Chg NoB w w' := by
  by_cases hl : a1.size ≤ 200
  · by_cases k0 : a2 % 5 = 0
    · exact sayReads_0 a0 a1 a2 hl l0 u0 k0 w
    by_cases k1 : a2 % 5 = 1
    · exact sayReads_1 a0 a1 a2 hl l0 u0 k1 w
    by_cases k2 : a2 % 5 = 2
    · exact sayReads_2 a0 a1 a2 hl l0 u0 k2 w
    by_cases k3 : a2 % 5 = 3
    · exact sayReads_3 a0 a1 a2 hl l0 u0 k3 w
    exact sayReads_4 a0 a1 a2 hl l0 u0 (by omega) w
  · have d1 : decide (200 < (a1.size : Int)) = true := by simp; omega
    have hm := IntWalk.i64_in (a1.size) (by have : maxLen = 9223372036854775807 := rfl; omega)
    go_enter Try.func7, Try.ntmps7
    go_wp2_with fail
    refine (known17_any w).mono ?_
    rintro e w1 ⟨rfl, X1⟩
    go_wp2_with fail
    go_ret
    exact ⟨rfl, X1⟩
end Go.Proofs.Ytaagobmnogmofaa
