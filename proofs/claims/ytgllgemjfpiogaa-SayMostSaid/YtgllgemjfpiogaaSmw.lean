/- Walk: tympanhelp.Begins, tympanlaw17.SayMost. -/
import Derived.Test.YtgllgemjfpiogaaSmp
namespace Go.Proofs.Ytgllgemjfpiogaa
open Go.RowKit

theorem extract_pre (l p r : List UInt8) (h : l = p ++ r) : (⟨l.toArray⟩ : ByteArray).extract 0 p.length = ⟨p.toArray⟩ := by
  have e : ((⟨l.toArray⟩ : ByteArray).extract 0 p.length).data = p.toArray := by
    rw [ByteArray.data_extract]
    apply Array.toList_inj.1
    simp [h]
  exact congrArg ByteArray.mk e
set_option maxRecDepth 100000 in
theorem begins_any (l r : List UInt8) (p : ByteArray) (h : l = p.toList ++ r) (hl : l.length ≤ 1000000) (w : World) :
    Calls Try.prog 24 #[.string ⟨l.toArray⟩, .string p] w fun e w' => e = .returned (.bool true) ∧ Chg NoB w w' := by
  have hp : p.toList.length = p.size := by rw [ByteArray.toList_eq]; rfl
  have hx := extract_pre l p.toList r h
  have hpp : (⟨p.toList.toArray⟩ : ByteArray) = p := by rw [ByteArray.toList_eq]
  rw [hpp, hp] at hx
  have hsz : (⟨l.toArray⟩ : ByteArray).size = l.length := by simp [ByteArray.size]
  have hle : p.size ≤ l.length := by rw [h, List.length_append, hp]; omega
  have h1 : (p.size : Int) ≤ ((⟨l.toArray⟩ : ByteArray).size : Int) := by rw [hsz]; omega
  have h2 : ((⟨l.toArray⟩ : ByteArray).size : Int) ≤ 1000000 := by rw [hsz]; omega
  generalize (⟨l.toArray⟩ : ByteArray) = L at *
  clear h hpp hsz hle hl hp
  go_enter Try.func24, Try.ntmps24
  go_wp2_with fail
  go_ret
  exact ⟨rfl, Chg.refl _ _⟩
/-- SayMost's heap: the one before may stand in the new one. -/
theorem may_Ka (more : Bool) (m k : Nat) (c : C) (h2 : 2 ≤ m) (h4 : m ≤ 4) (hk : k ≤ 100) : mayH (hK more m k ++ [c]) (oK m k) = true := by
  cases k with
  | zero => exact (find_K _ 0 2 [nullO, nullO] (by rw [List.getElem?_append_left (by rw [hK_len]; omega)]; exact hK_zero ..) rfl (by omega) (by omega)).1
  | succ k => exact (find_K _ (k + 1) m (itK more m k) (by rw [List.getElem?_append_left (by rw [hK_len]; omega)]; exact hK_get more m (k + 1) k (by omega)) (itK_len more m k h2) (by omega) (by omega)).1
theorem it_false (m k : Nat) (h2 : 2 ≤ m) : (List.replicate m nullO).set 0 (oK m k) = itK false m k := by
  obtain ⟨n, rfl⟩ : ∃ n, m = n + 1 := ⟨m - 1, by omega⟩
  rw [List.replicate_succ]
  rfl
theorem it_true (m k : Nat) (h2 : 2 ≤ m) : ((List.replicate m nullO).set 0 (oK m k)).set 1 (oK m k) = itK true m k := by
  obtain ⟨n, rfl⟩ : ∃ n, m = n + 2 := ⟨m - 2, by omega⟩
  rw [List.replicate_succ, List.replicate_succ]
  rfl
abbrev obox (x : O) : Obj := .cells #[.int .i64 x.kind, .bool x.exec, .int .i64 x.n, .int .i64 x.pos, .int .i64 x.len, .string x.s] 28
set_option maxRecDepth 100000 in
set_option maxHeartbeats 4000000 in
theorem sayMost_false (a0 : Int) (l0 : 0 ≤ a0) (u0 : a0 < 256) (w : World) :
    Calls Try.prog 6 #[.int .u8 a0, .bool false] w fun e w' => e = .returned (.bool true) ∧ Chg NoB w w' := by
  obtain ⟨m, hm, h2, h4⟩ : ∃ m : Nat, 2 + a0 % 3 = (m : Int) ∧ 2 ≤ m ∧ m ≤ 4 := ⟨(2 + a0 % 3).toNat, by omega, by omega, by omega⟩
  have hmw := IntWalk.i64_in (2 + a0 % 3) (by omega)
  rw [hm] at hmw
  go_enter Try.func6, Try.ntmps6
  go_wp2_with fail
  refine (known17_any w).mono ?_
  rintro e w1 ⟨rfl, X1⟩
  go_wp2_with fail
  refine (at_hnew (Ats.start X1)).mono ?_
  rintro e w2 ⟨hp, rfl, A0⟩
  go_wp2_with fail
  refine (at_array A0 2 kn_1).mono ?_
  rintro e w3 ⟨rfl, A1⟩
  go_wp2_with fail
  have A2 := A1.alloc (.cells #[.int .i64 9, .bool false, .int .i64 0, .int .i64 0, .int .i64 2, .string ⟨#[]⟩] 28)
  clear A0 A1 X1
  generalize hW : w3.alloc _ = w4 at *
  clear hW
  generalize w3.heap.size = ab at *
  go_loopw [8] (fun iv wr => ∃ k : Nat, k ≤ 12 ∧ iv = .int .i64 k ∧ Ats w wr [(hp, hK false m k)] [(ab, obox (oK m k))]) (fun iv _ => 12 - (intOf iv).toNat)
  case atStart => exact ⟨0, by omega, rfl, A2⟩
  case round =>
    obtain ⟨k, hk, rfl, A5⟩ := hrel
    clear A2
    by_cases hlt : k < 12
    · have hlt' : (k : Int) < 12 := by omega
      have ha := hid' (arr_K false m k h2 h4 (by omega))
      have S1 := hid' (set_K (hK false m k) (k + 1) m (List.replicate m nullO) (hK_len ..) (by simp) (by omega) (by omega) 0 (by omega) (oK m k) (may_Ka false m k _ h2 h4 (by omega)))
      rw [it_false m k h2] at S1
      rw [show oK m (k + 1) = ⟨9, false, (k : Int) + 1, 0, (m : Int), ⟨#[]⟩⟩ from rfl] at ha
      have E1 : Hid (hK false m k ++ [⟨false, false, false, itK false m k, []⟩] = hK false m (k + 1)) := hid' rfl
      generalize hK false m k = L at *
      generalize itK false m k = it at *
      generalize oK m k = x at *
      obtain ⟨xk, xe, xn, xa, xl, xs⟩ := x
      go_wp2_with fail
      refine (at_array A5 (m : Int) ha.out).mono ?_
      rintro e w6 ⟨rfl, A6⟩
      have Q6 := cells_of (A6.box _ (List.mem_cons_self ..))
      have q6 := blk_lt (A6.box _ (List.mem_cons_self ..))
      simp only at Q6 q6
      clear A5
      go_wp2_with fail
      have A8 := A6.alloc (.cells #[.int .i64 9, .bool false, .int .i64 ((k : Int) + 1), .int .i64 0, .int .i64 m, .string ⟨#[]⟩] 28)
      refine (at_set A8 _ ((0 : Nat) : Int) _ S1.out).mono ?_
      rintro e w9 ⟨rfl, A10⟩
      clear A8 A6 Q6 q6
      have R9 := cells_of (A10.box _ (List.mem_cons_self ..))
      have v9 := blk_lt (A10.box _ (List.mem_cons_self ..))
      have Q9 := cells_of (A10.box _ (List.mem_cons_of_mem _ (List.mem_cons_self ..)))
      have Z9 := free_of (A10.box _ (List.mem_cons_of_mem _ (List.mem_cons_self ..)))
      have q9 := blk_lt (A10.box _ (List.mem_cons_of_mem _ (List.mem_cons_self ..)))
      simp only at R9 v9 Q9 q9 Z9
      have HA := hid' A10
      clear A10
      go_wp2_with fail
      have A11 := ((((((HA.out.perm (List.Perm.swap _ _ _)).put 0 (.int .i64 9)).put 1 (.bool false)).put 2 (.int .i64 ((k : Int) + 1))).put 3 (.int .i64 0)).put 4 (.int .i64 m)).put 5 (.string ⟨#[]⟩)
      simp only [List.setIfInBounds_toArray, List.set_cons_zero, List.set_cons_succ] at A11
      rw [E1.out] at A11
      have A12 := A11.keep (K' := [(ab, obox (oK m (k + 1)))]) (List.Sublist.cons_cons _ (List.nil_sublist _))
      go_roundw
      case rel => exact ⟨k + 1, by omega, by go_num, A12⟩
      case measure => simp [intOf]; omega
    obtain rfl : k = 12 := by omega
    have hF := at_full A5 (List.mem_cons_self ..) (oK m 12) (sayG_K false m 12 h2 h4 (by omega) 12 (by omega))
    rw [show (20 : Nat) = 8 + 12 from rfl, say_K false m 12 h2 h4 (by omega) 12 (by omega)] at hF
    obtain ⟨hn, r, hr⟩ := most_false m h2 h4
    generalize (sK false m 12).take 1000 = T at *
    have HB := hid' (fun w => begins_any T r P2 hr (by omega) w)
    have hsz : ((⟨T.toArray⟩ : ByteArray).size : Int) < 1000 := by rw [show (⟨T.toArray⟩ : ByteArray).size = T.length by simp [ByteArray.size]]; omega
    generalize (⟨T.toArray⟩ : ByteArray) = B at *
    have HF := hid' hF
    have R5 := cells_of (A5.box _ (List.mem_cons_self ..))
    have v5 := blk_lt (A5.box _ (List.mem_cons_self ..))
    generalize oK m 12 = x at *
    obtain ⟨xk, xe, xn, xa, xl, xs⟩ := x
    simp only at R5 v5
    clear hF hr hn A5
    go_wp2_with fail
    refine HF.out.mono ?_
    rintro e w6 ⟨rfl, A6⟩
    have HA := hid' A6
    clear A6
    go_wp2_with fail
    refine (HB.out _).mono ?_
    rintro e w7 ⟨rfl, X7⟩
    go_wp2_with fail
    go_ret
    exact ⟨rfl, (HA.out.pure X7).chg⟩
set_option maxRecDepth 100000 in
set_option maxHeartbeats 4000000 in
theorem sayMost_true (a0 : Int) (l0 : 0 ≤ a0) (u0 : a0 < 256) (w : World) :
    Calls Try.prog 6 #[.int .u8 a0, .bool true] w fun e w' => e = .returned (.bool true) ∧ Chg NoB w w' := by
  obtain ⟨m, hm, h2, h4⟩ : ∃ m : Nat, 2 + a0 % 3 = (m : Int) ∧ 2 ≤ m ∧ m ≤ 4 := ⟨(2 + a0 % 3).toNat, by omega, by omega, by omega⟩
  have hmw := IntWalk.i64_in (2 + a0 % 3) (by omega)
  rw [hm] at hmw
  go_enter Try.func6, Try.ntmps6
  go_wp2_with fail
  refine (known17_any w).mono ?_
  rintro e w1 ⟨rfl, X1⟩
  go_wp2_with fail
  refine (at_hnew (Ats.start X1)).mono ?_
  rintro e w2 ⟨hp, rfl, A0⟩
  go_wp2_with fail
  refine (at_array A0 2 kn_1).mono ?_
  rintro e w3 ⟨rfl, A1⟩
  go_wp2_with fail
  have A2 := A1.alloc (.cells #[.int .i64 9, .bool false, .int .i64 0, .int .i64 0, .int .i64 2, .string ⟨#[]⟩] 28)
  clear A0 A1 X1
  generalize hW : w3.alloc _ = w4 at *
  clear hW
  generalize w3.heap.size = ab at *
  go_loopw [8] (fun iv wr => ∃ k : Nat, k ≤ 12 ∧ iv = .int .i64 k ∧ Ats w wr [(hp, hK true m k)] [(ab, obox (oK m k))]) (fun iv _ => 12 - (intOf iv).toNat)
  case atStart => exact ⟨0, by omega, rfl, A2⟩
  case round =>
    obtain ⟨k, hk, rfl, A5⟩ := hrel
    clear A2
    by_cases hlt : k < 12
    · have hlt' : (k : Int) < 12 := by omega
      have ha := hid' (arr_K true m k h2 h4 (by omega))
      have S1 := hid' (set_K (hK true m k) (k + 1) m (List.replicate m nullO) (hK_len ..) (by simp) (by omega) (by omega) 0 (by omega) (oK m k) (may_Ka true m k _ h2 h4 (by omega)))
      have S2 := hid' (set_K (hK true m k) (k + 1) m ((List.replicate m nullO).set 0 (oK m k)) (hK_len ..) (by simp) (by omega) (by omega) 1 (by omega) (oK m k) (may_Ka true m k _ h2 h4 (by omega)))
      rw [it_true m k h2] at S2
      rw [show oK m (k + 1) = ⟨9, false, (k : Int) + 1, 0, (m : Int), ⟨#[]⟩⟩ from rfl] at ha
      have E1 : Hid (hK true m k ++ [⟨false, false, false, itK true m k, []⟩] = hK true m (k + 1)) := hid' rfl
      generalize hK true m k = L at *
      generalize itK true m k = it at *
      generalize oK m k = x at *
      obtain ⟨xk, xe, xn, xa, xl, xs⟩ := x
      go_wp2_with fail
      refine (at_array A5 (m : Int) ha.out).mono ?_
      rintro e w6 ⟨rfl, A6⟩
      have Q6 := cells_of (A6.box _ (List.mem_cons_self ..))
      have q6 := blk_lt (A6.box _ (List.mem_cons_self ..))
      simp only at Q6 q6
      clear A5
      go_wp2_with fail
      have A8 := A6.alloc (.cells #[.int .i64 9, .bool false, .int .i64 ((k : Int) + 1), .int .i64 0, .int .i64 m, .string ⟨#[]⟩] 28)
      refine (at_set A8 _ ((0 : Nat) : Int) _ S1.out).mono ?_
      rintro e w8 ⟨rfl, A9⟩
      clear A8 A6 Q6 q6
      have R9 := cells_of (A9.box _ (List.mem_cons_self ..))
      have v9 := blk_lt (A9.box _ (List.mem_cons_self ..))
      have Q9 := cells_of (A9.box _ (List.mem_cons_of_mem _ (List.mem_cons_self ..)))
      have q9 := blk_lt (A9.box _ (List.mem_cons_of_mem _ (List.mem_cons_self ..)))
      simp only at R9 v9 Q9 q9
      go_wp2_with fail
      refine (at_set A9 _ ((1 : Nat) : Int) _ S2.out).mono ?_
      rintro e w9 ⟨rfl, A10⟩
      clear A9 R9 v9 Q9 q9
      have R9 := cells_of (A10.box _ (List.mem_cons_self ..))
      have v9 := blk_lt (A10.box _ (List.mem_cons_self ..))
      have Q9 := cells_of (A10.box _ (List.mem_cons_of_mem _ (List.mem_cons_self ..)))
      have Z9 := free_of (A10.box _ (List.mem_cons_of_mem _ (List.mem_cons_self ..)))
      have q9 := blk_lt (A10.box _ (List.mem_cons_of_mem _ (List.mem_cons_self ..)))
      simp only at R9 v9 Q9 q9 Z9
      have HA := hid' A10
      clear A10
      go_wp2_with fail
      have A11 := ((((((HA.out.perm (List.Perm.swap _ _ _)).put 0 (.int .i64 9)).put 1 (.bool false)).put 2 (.int .i64 ((k : Int) + 1))).put 3 (.int .i64 0)).put 4 (.int .i64 m)).put 5 (.string ⟨#[]⟩)
      simp only [List.setIfInBounds_toArray, List.set_cons_zero, List.set_cons_succ] at A11
      rw [E1.out] at A11
      have A12 := A11.keep (K' := [(ab, obox (oK m (k + 1)))]) (List.Sublist.cons_cons _ (List.nil_sublist _))
      go_roundw
      case rel => exact ⟨k + 1, by omega, by go_num, A12⟩
      case measure => simp [intOf]; omega
    obtain rfl : k = 12 := by omega
    have hF := at_full A5 (List.mem_cons_self ..) (oK m 12) (sayG_K true m 12 h2 h4 (by omega) 12 (by omega))
    rw [show (20 : Nat) = 8 + 12 from rfl, say_K true m 12 h2 h4 (by omega) 12 (by omega)] at hF
    obtain ⟨hn, r, hr⟩ := most_true m h2
    generalize (sK true m 12).take 1000 = T at *
    have HB := hid' (fun w => begins_any T r P1 hr (by omega) w)
    have hsz : ((⟨T.toArray⟩ : ByteArray).size : Int) = 1000 := by rw [show (⟨T.toArray⟩ : ByteArray).size = T.length by simp [ByteArray.size]]; omega
    generalize (⟨T.toArray⟩ : ByteArray) = B at *
    have HF := hid' hF
    have R5 := cells_of (A5.box _ (List.mem_cons_self ..))
    have v5 := blk_lt (A5.box _ (List.mem_cons_self ..))
    generalize oK m 12 = x at *
    obtain ⟨xk, xe, xn, xa, xl, xs⟩ := x
    simp only at R5 v5
    clear hF hr hn A5
    go_wp2_with fail
    refine HF.out.mono ?_
    rintro e w6 ⟨rfl, A6⟩
    have HA := hid' A6
    clear A6
    go_wp2_with fail
    refine (HB.out _).mono ?_
    rintro e w7 ⟨rfl, X7⟩
    go_wp2_with fail
    go_ret
    exact ⟨rfl, (HA.out.pure X7).chg⟩
theorem sayMost_any (a0 : Int) (a1 : Bool) (l0 : 0 ≤ a0) (u0 : a0 < 256) (w : World) :
    Calls Try.prog 6 #[.int .u8 a0, .bool a1] w fun e w' => e = .returned (.bool true) ∧ Chg NoB w w' := by
  cases a1
  · exact sayMost_false a0 l0 u0 w
  · exact sayMost_true a0 l0 u0 w
end Go.Proofs.Ytgllgemjfpiogaa
