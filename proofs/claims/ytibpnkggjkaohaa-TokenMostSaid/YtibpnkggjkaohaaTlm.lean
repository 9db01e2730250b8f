/- Walk: tympanlaw8.TokenMost. -/
import Derived.Test.YtibpnkggjkaohaaTlp
import Derived.Deep.OwnRows
namespace Go.Proofs.Ytibpnkggjkaohaa
open Go.RowKit

theorem make8 (N : Nat) (W : World) (hN : N ≤ 100000) : (Instr.makeSlice 31 (.int .i64 (N : Int)) (.int .i64 (N : Int))).run Try.prog W = .ok (.slice (some ⟨W.heap.size, 0, none⟩) N N) (W.alloc (.cells (madeCells #[.int .u8 0] N) 5)) :=
  run_make_row' 31 5 (.int .u8 0) 1 tq_under tq_info rfl .i64 .i64 N (by omega) (by omega) W
theorem own_str' {w : World} {B : Nat} {v : Value} {b : List UInt8} (h : w.ownsRow B 5 1 v b.length (u8L b)) (W : World) (hW : Chg NoB w W) : (convert 31 9 v).run Try.prog W = .ok (.string (bytesB b)) W := own_str h W hW
set_option maxRecDepth 100000 in
set_option maxHeartbeats 400000 in
theorem most_0_true (a0 : Int) (l0 : 0 ≤ a0) (u0 : a0 < 256) (hm : a0 % 3 = 0) (w : World) :
    Calls Try.prog 4 #[.int .u8 a0, .bool true] w fun e w' => e = .returned (.bool true) ∧ Chg NoB w w' := by
  obtain ⟨L, hLL, hLG, hLR⟩ := d0_true
  have HLL := hid' hLL
  have HLG := hid' hLG
  have HLR := hid' hLR
  clear hLL hLG hLR
  have HK := hid' (known8_any w)
  have mk := fun W => make8 8002 W (by omega)
  change ∀ W : World, (Instr.makeSlice 31 (.int .i64 8002) (.int .i64 8002)).run Try.prog W = .ok (.slice (some ⟨W.heap.size, 0, none⟩) 8002 8002) (W.alloc (.cells (madeCells #[.int .u8 0] 8002) 5)) at mk
  go_enter Try.func4, Try.ntmps4
  go_wp2_with fail
  refine HK.out.mono ?_
  rintro r w1 ⟨rfl, X1⟩
  go_wp2_with fail
  have hb0 := blk_new w1 (.cells (madeCells #[.int .u8 0] 8002) 5)
  have X2 := X1.alloc (.cells (madeCells #[.int .u8 0] 8002) 5)
  have hsz : (madeCells #[Value.int IntKind.u8 0] 8002).size = 8002 := size_madeCells _ _
  have hge : w.heap.size ≤ w1.heap.size := X1.size
  generalize hcs : madeCells #[Value.int IntKind.u8 0] 8002 = cs0 at *
  generalize w1.alloc (.cells cs0 5) = w2 at *
  generalize w1.heap.size = g at *
  clear hcs mk X1
  go_loopw [34] (fun iv wr => ∃ (i : Nat) (cur : Array Value), i ≤ 8002 ∧ iv = .int .i64 i ∧ Chg NoB w wr ∧ wr.heap[g]? = some (.cells cur 5 (0, 0)) ∧ cur.size = 8002 ∧ ∀ j, j < i → cur[j]? = some (u8V (pat j))) (fun iv _ => 8002 - (intOf iv).toNat)
  case atStart => exact ⟨0, cs0, by omega, rfl, X2, hb0, hsz, fun j hj => by omega⟩
  case round =>
    obtain ⟨i, cur, hi, rfl, X, hb, hcz, hcur⟩ := hrel
    have HC := hid' hcur
    have HB := hid' hb
    have HZ := hid' hcz
    clear hcur X2 hb0 hsz
    by_cases hlt : i < 8002
    · have hlt' : (i : Int) < 8002 := by omega
      obtain ⟨old, hold⟩ : ∃ old, cur[i]? = some old := ⟨cur[i]'(by omega), by simp⟩
      have hc : wr.cell? ⟨g, i, none⟩ = some old := by rw [cells_of hb i, hold]
      have hf : wr.frozen? ⟨g, i, none⟩ = false := free_of hb i
      have gl := blk_lt hb
      clear hb hcz hold
      by_cases par : i % 2 = 0
      · have i0 : ∀ W, (Instr.index 32 (.agg #[.int .u8 97, .int .u8 32]) (.int .i64 ((i : Int) % 2))).run Try.prog W = .ok (.int .u8 97) W := fun W => by rw [show (i : Int) % 2 = 0 by omega]; kernel_rfl
        have PP := hid' par
        clear par
        go_wp2_with fail
        go_roundw
        case rel => exact ⟨i + 1, _, by omega, by go_num, X.setCell (.inr hge) _, blk_set HB.out i _, by rw [Array.size_setIfInBounds]; exact HZ.out, fun j hj => by
          rw [Array.getElem?_setIfInBounds]
          by_cases e : i = j
          · subst e; rw [if_pos rfl, if_pos (by rw [HZ.out]; omega)]; unfold pat; rw [if_pos PP.out]; rfl
          · rw [if_neg e]; exact HC.out j (by omega)⟩
        case measure => simp [intOf]; omega
      · have i0 : ∀ W, (Instr.index 32 (.agg #[.int .u8 97, .int .u8 32]) (.int .i64 ((i : Int) % 2))).run Try.prog W = .ok (.int .u8 32) W := fun W => by rw [show (i : Int) % 2 = 1 by omega]; kernel_rfl
        have PP := hid' par
        clear par
        go_wp2_with fail
        go_roundw
        case rel => exact ⟨i + 1, _, by omega, by go_num, X.setCell (.inr hge) _, blk_set HB.out i _, by rw [Array.size_setIfInBounds]; exact HZ.out, fun j hj => by
          rw [Array.getElem?_setIfInBounds]
          by_cases e : i = j
          · subst e; rw [if_pos rfl, if_pos (by rw [HZ.out]; omega)]; unfold pat; rw [if_neg PP.out]; rfl
          · rw [if_neg e]; exact HC.out j (by omega)⟩
        case measure => simp [intOf]; omega
    obtain rfl : i = 8002 := by omega
    have hown := own_fill (B := w.heap.size) (l := L) hge hb hcz HLL.out (by decide) (fun j hj => by rw [HC.out j hj, HLG.out j hj])
    have hcv := own_str' hown wr (Chg.refl _ _)
    have hall := all_any (bytesB L) (by rw [size_B, HLL.out]; decide) wr
    rw [bytesB_lst] at hall
    generalize (bytesB L : ByteArray) = S at *
    rw [HLR.out] at hall
    have HALL := hid' hall
    clear hall hown HC HB HZ hb hcz
    go_wp2_with fail
    refine HALL.out.mono ?_
    rintro r w3 ⟨v, rfl, X3, -, hn⟩
    obtain rfl := hn rfl
    go_wp2_with fail
    go_ret
    exact ⟨rfl, X.trans X3⟩
set_option maxRecDepth 100000 in
set_option maxHeartbeats 400000 in
theorem most_0_false (a0 : Int) (l0 : 0 ≤ a0) (u0 : a0 < 256) (hm : a0 % 3 = 0) (w : World) :
    Calls Try.prog 4 #[.int .u8 a0, .bool false] w fun e w' => e = .returned (.bool true) ∧ Chg NoB w w' := by
  obtain ⟨L, hLL, hLG, hLR⟩ := d0_false
  have HLL := hid' hLL
  have HLG := hid' hLG
  have HLR := hid' hLR
  clear hLL hLG hLR
  have HK := hid' (known8_any w)
  have mk := fun W => make8 8000 W (by omega)
  change ∀ W : World, (Instr.makeSlice 31 (.int .i64 8000) (.int .i64 8000)).run Try.prog W = .ok (.slice (some ⟨W.heap.size, 0, none⟩) 8000 8000) (W.alloc (.cells (madeCells #[.int .u8 0] 8000) 5)) at mk
  go_enter Try.func4, Try.ntmps4
  go_wp2_with fail
  refine HK.out.mono ?_
  rintro r w1 ⟨rfl, X1⟩
  go_wp2_with fail
  have hb0 := blk_new w1 (.cells (madeCells #[.int .u8 0] 8000) 5)
  have X2 := X1.alloc (.cells (madeCells #[.int .u8 0] 8000) 5)
  have hsz : (madeCells #[Value.int IntKind.u8 0] 8000).size = 8000 := size_madeCells _ _
  have hge : w.heap.size ≤ w1.heap.size := X1.size
  generalize hcs : madeCells #[Value.int IntKind.u8 0] 8000 = cs0 at *
  generalize w1.alloc (.cells cs0 5) = w2 at *
  generalize w1.heap.size = g at *
  clear hcs mk X1
  go_loopw [34] (fun iv wr => ∃ (i : Nat) (cur : Array Value), i ≤ 8000 ∧ iv = .int .i64 i ∧ Chg NoB w wr ∧ wr.heap[g]? = some (.cells cur 5 (0, 0)) ∧ cur.size = 8000 ∧ ∀ j, j < i → cur[j]? = some (u8V (pat j))) (fun iv _ => 8000 - (intOf iv).toNat)
  case atStart => exact ⟨0, cs0, by omega, rfl, X2, hb0, hsz, fun j hj => by omega⟩
  case round =>
    obtain ⟨i, cur, hi, rfl, X, hb, hcz, hcur⟩ := hrel
    have HC := hid' hcur
    have HB := hid' hb
    have HZ := hid' hcz
    clear hcur X2 hb0 hsz
    by_cases hlt : i < 8000
    · have hlt' : (i : Int) < 8000 := by omega
      obtain ⟨old, hold⟩ : ∃ old, cur[i]? = some old := ⟨cur[i]'(by omega), by simp⟩
      have hc : wr.cell? ⟨g, i, none⟩ = some old := by rw [cells_of hb i, hold]
      have hf : wr.frozen? ⟨g, i, none⟩ = false := free_of hb i
      have gl := blk_lt hb
      clear hb hcz hold
      by_cases par : i % 2 = 0
      · have i0 : ∀ W, (Instr.index 32 (.agg #[.int .u8 97, .int .u8 32]) (.int .i64 ((i : Int) % 2))).run Try.prog W = .ok (.int .u8 97) W := fun W => by rw [show (i : Int) % 2 = 0 by omega]; kernel_rfl
        have PP := hid' par
        clear par
        go_wp2_with fail
        go_roundw
        case rel => exact ⟨i + 1, _, by omega, by go_num, X.setCell (.inr hge) _, blk_set HB.out i _, by rw [Array.size_setIfInBounds]; exact HZ.out, fun j hj => by
          rw [Array.getElem?_setIfInBounds]
          by_cases e : i = j
          · subst e; rw [if_pos rfl, if_pos (by rw [HZ.out]; omega)]; unfold pat; rw [if_pos PP.out]; rfl
          · rw [if_neg e]; exact HC.out j (by omega)⟩
        case measure => simp [intOf]; omega
      · have i0 : ∀ W, (Instr.index 32 (.agg #[.int .u8 97, .int .u8 32]) (.int .i64 ((i : Int) % 2))).run Try.prog W = .ok (.int .u8 32) W := fun W => by rw [show (i : Int) % 2 = 1 by omega]; kernel_rfl
        have PP := hid' par
        clear par
        go_wp2_with fail
        go_roundw
        case rel => exact ⟨i + 1, _, by omega, by go_num, X.setCell (.inr hge) _, blk_set HB.out i _, by rw [Array.size_setIfInBounds]; exact HZ.out, fun j hj => by
          rw [Array.getElem?_setIfInBounds]
          by_cases e : i = j
          · subst e; rw [if_pos rfl, if_pos (by rw [HZ.out]; omega)]; unfold pat; rw [if_neg PP.out]; rfl
          · rw [if_neg e]; exact HC.out j (by omega)⟩
        case measure => simp [intOf]; omega
    obtain rfl : i = 8000 := by omega
    have hown := own_fill (B := w.heap.size) (l := L) hge hb hcz HLL.out (by decide) (fun j hj => by rw [HC.out j hj, HLG.out j hj])
    have hcv := own_str' hown wr (Chg.refl _ _)
    have hall := all_any (bytesB L) (by rw [size_B, HLL.out]; decide) wr
    rw [bytesB_lst] at hall
    generalize (bytesB L : ByteArray) = S at *
    have hr := HLR.out
    generalize allF L = R at *
    obtain ⟨re, rl, rp⟩ := R
    obtain ⟨rfl, h4⟩ := hr
    simp only at h4
    have H4 := hid' h4
    have HALL := hid' hall
    clear h4 hall hown HC HB HZ hb hcz
    go_wp2_with fail
    refine HALL.out.mono ?_
    rintro r w3 ⟨v, rfl, X3, hown, -⟩
    obtain ⟨va, vc, rfl, -⟩ := own_val hown
    clear hown
    rw [H4.out]
    go_wp2_with fail
    go_ret
    exact ⟨rfl, X.trans X3⟩
set_option maxRecDepth 100000 in
set_option maxHeartbeats 400000 in
theorem most_1_true (a0 : Int) (l0 : 0 ≤ a0) (u0 : a0 < 256) (hm : a0 % 3 = 1) (w : World) :
    Calls Try.prog 4 #[.int .u8 a0, .bool true] w fun e w' => e = .returned (.bool true) ∧ Chg NoB w w' := by
  obtain ⟨L, hLL, hLG, hLR⟩ := d1_true
  have HLL := hid' hLL
  have HLG := hid' hLG
  have HLR := hid' hLR
  clear hLL hLG hLR
  have HK := hid' (known8_any w)
  have mk := fun W => make8 101 W (by omega)
  change ∀ W : World, (Instr.makeSlice 31 (.int .i64 101) (.int .i64 101)).run Try.prog W = .ok (.slice (some ⟨W.heap.size, 0, none⟩) 101 101) (W.alloc (.cells (madeCells #[.int .u8 0] 101) 5)) at mk
  go_enter Try.func4, Try.ntmps4
  go_wp2_with fail
  refine HK.out.mono ?_
  rintro r w1 ⟨rfl, X1⟩
  go_wp2_with fail
  have hb0 := blk_new w1 (.cells (madeCells #[.int .u8 0] 101) 5)
  have X2 := X1.alloc (.cells (madeCells #[.int .u8 0] 101) 5)
  have hsz : (madeCells #[Value.int IntKind.u8 0] 101).size = 101 := size_madeCells _ _
  have hge : w.heap.size ≤ w1.heap.size := X1.size
  generalize hcs : madeCells #[Value.int IntKind.u8 0] 101 = cs0 at *
  generalize w1.alloc (.cells cs0 5) = w2 at *
  generalize w1.heap.size = g at *
  clear hcs mk X1
  go_loopw [78] (fun iv wr => ∃ (i : Nat) (cur : Array Value), i ≤ 101 ∧ iv = .int .i64 i ∧ Chg NoB w wr ∧ wr.heap[g]? = some (.cells cur 5 (0, 0)) ∧ cur.size = 101 ∧ ∀ j, j < i → cur[j]? = some (u8V (97))) (fun iv _ => 101 - (intOf iv).toNat)
  case atStart => exact ⟨0, cs0, by omega, rfl, X2, hb0, hsz, fun j hj => by omega⟩
  case round =>
    obtain ⟨i, cur, hi, rfl, X, hb, hcz, hcur⟩ := hrel
    have HC := hid' hcur
    have HB := hid' hb
    have HZ := hid' hcz
    clear hcur X2 hb0 hsz
    by_cases hlt : i < 101
    · have hlt' : (i : Int) < 101 := by omega
      obtain ⟨old, hold⟩ : ∃ old, cur[i]? = some old := ⟨cur[i]'(by omega), by simp⟩
      have hc : wr.cell? ⟨g, i, none⟩ = some old := by rw [cells_of hb i, hold]
      have hf : wr.frozen? ⟨g, i, none⟩ = false := free_of hb i
      have gl := blk_lt hb
      clear hb hcz hold
      go_wp2_with fail
      go_roundw
      case rel => exact ⟨i + 1, _, by omega, by go_num, X.setCell (.inr hge) _, blk_set HB.out i _, by rw [Array.size_setIfInBounds]; exact HZ.out, fun j hj => by
        rw [Array.getElem?_setIfInBounds]
        by_cases e : i = j
        · subst e; rw [if_pos rfl, if_pos (by rw [HZ.out]; omega)]; rfl
        · rw [if_neg e]; exact HC.out j (by omega)⟩
      case measure => simp [intOf]; omega
    obtain rfl : i = 101 := by omega
    have hown := own_fill (B := w.heap.size) (l := L) hge hb hcz HLL.out (by decide) (fun j hj => by rw [HC.out j hj, HLG.out j hj])
    have hcv := own_str' hown wr (Chg.refl _ _)
    have hnx := next_any (bytesB [32, 47] ++ bytesB L) 0 (by rw [ByteArray.size_append, size_B, size_B, HLL.out]; decide) (Nat.zero_le _) wr
    change Calls _ _ _ _ (fun r w' => r = .returned (wordV (tokAt 0 ((bytesB [32, 47] ++ bytesB L).toList.drop 0)) ((0 + (nextF ((bytesB [32, 47] ++ bytesB L).toList.drop 0)).2.2.1 + (nextF ((bytesB [32, 47] ++ bytesB L).toList.drop 0)).2.2.2 : Nat) : Int) (nextF ((bytesB [32, 47] ++ bytesB L).toList.drop 0)).1) ∧ Chg NoB wr w') at hnx
    rw [List.drop_zero, lst_app, List.cons_append, List.cons_append, List.nil_append, HLR.out.1, HLR.out.2] at hnx
    have s0 : eqT ⟨0, 0, ⟨#[]⟩, 0⟩ ⟨0, 0, ⟨#[]⟩, 0⟩ = true := eqT_self _
    have hSz : (bytesB L).size ≤ 200 := by rw [size_B, HLL.out]; decide
    generalize (bytesB L : ByteArray) = S at *
    have HNX := hid' hnx
    clear hnx hown HC HB HZ hb hcz
    go_wp2_with fail
    refine HNX.out.mono ?_
    rintro r w3 ⟨rfl, X3⟩
    go_wp2_with fail
    go_ret
    exact ⟨rfl, (X.trans X3).alloc _⟩
set_option maxRecDepth 100000 in
set_option maxHeartbeats 400000 in
theorem most_1_false (a0 : Int) (l0 : 0 ≤ a0) (u0 : a0 < 256) (hm : a0 % 3 = 1) (w : World) :
    Calls Try.prog 4 #[.int .u8 a0, .bool false] w fun e w' => e = .returned (.bool true) ∧ Chg NoB w w' := by
  obtain ⟨L, hLL, hLG, hLR⟩ := d1_false
  have HLL := hid' hLL
  have HLG := hid' hLG
  have HLR := hid' hLR
  clear hLL hLG hLR
  have HK := hid' (known8_any w)
  have mk := fun W => make8 100 W (by omega)
  change ∀ W : World, (Instr.makeSlice 31 (.int .i64 100) (.int .i64 100)).run Try.prog W = .ok (.slice (some ⟨W.heap.size, 0, none⟩) 100 100) (W.alloc (.cells (madeCells #[.int .u8 0] 100) 5)) at mk
  go_enter Try.func4, Try.ntmps4
  go_wp2_with fail
  refine HK.out.mono ?_
  rintro r w1 ⟨rfl, X1⟩
  go_wp2_with fail
  have hb0 := blk_new w1 (.cells (madeCells #[.int .u8 0] 100) 5)
  have X2 := X1.alloc (.cells (madeCells #[.int .u8 0] 100) 5)
  have hsz : (madeCells #[Value.int IntKind.u8 0] 100).size = 100 := size_madeCells _ _
  have hge : w.heap.size ≤ w1.heap.size := X1.size
  generalize hcs : madeCells #[Value.int IntKind.u8 0] 100 = cs0 at *
  generalize w1.alloc (.cells cs0 5) = w2 at *
  generalize w1.heap.size = g at *
  clear hcs mk X1
  go_loopw [78] (fun iv wr => ∃ (i : Nat) (cur : Array Value), i ≤ 100 ∧ iv = .int .i64 i ∧ Chg NoB w wr ∧ wr.heap[g]? = some (.cells cur 5 (0, 0)) ∧ cur.size = 100 ∧ ∀ j, j < i → cur[j]? = some (u8V (97))) (fun iv _ => 100 - (intOf iv).toNat)
  case atStart => exact ⟨0, cs0, by omega, rfl, X2, hb0, hsz, fun j hj => by omega⟩
  case round =>
    obtain ⟨i, cur, hi, rfl, X, hb, hcz, hcur⟩ := hrel
    have HC := hid' hcur
    have HB := hid' hb
    have HZ := hid' hcz
    clear hcur X2 hb0 hsz
    by_cases hlt : i < 100
    · have hlt' : (i : Int) < 100 := by omega
      obtain ⟨old, hold⟩ : ∃ old, cur[i]? = some old := ⟨cur[i]'(by omega), by simp⟩
      have hc : wr.cell? ⟨g, i, none⟩ = some old := by rw [cells_of hb i, hold]
      have hf : wr.frozen? ⟨g, i, none⟩ = false := free_of hb i
      have gl := blk_lt hb
      clear hb hcz hold
      go_wp2_with fail
      go_roundw
      case rel => exact ⟨i + 1, _, by omega, by go_num, X.setCell (.inr hge) _, blk_set HB.out i _, by rw [Array.size_setIfInBounds]; exact HZ.out, fun j hj => by
        rw [Array.getElem?_setIfInBounds]
        by_cases e : i = j
        · subst e; rw [if_pos rfl, if_pos (by rw [HZ.out]; omega)]; rfl
        · rw [if_neg e]; exact HC.out j (by omega)⟩
      case measure => simp [intOf]; omega
    obtain rfl : i = 100 := by omega
    have hown := own_fill (B := w.heap.size) (l := L) hge hb hcz HLL.out (by decide) (fun j hj => by rw [HC.out j hj, HLG.out j hj])
    have hcv := own_str' hown wr (Chg.refl _ _)
    have hnx := next_any (bytesB [32, 47] ++ bytesB L) 0 (by rw [ByteArray.size_append, size_B, size_B, HLL.out]; decide) (Nat.zero_le _) wr
    change Calls _ _ _ _ (fun r w' => r = .returned (wordV (tokAt 0 ((bytesB [32, 47] ++ bytesB L).toList.drop 0)) ((0 + (nextF ((bytesB [32, 47] ++ bytesB L).toList.drop 0)).2.2.1 + (nextF ((bytesB [32, 47] ++ bytesB L).toList.drop 0)).2.2.2 : Nat) : Int) (nextF ((bytesB [32, 47] ++ bytesB L).toList.drop 0)).1) ∧ Chg NoB wr w') at hnx
    rw [List.drop_zero, lst_app, List.cons_append, List.cons_append, List.nil_append, HLR.out.1, HLR.out.2] at hnx
    have hSz : (bytesB L).size ≤ 200 := by rw [size_B, HLL.out]; decide
    have hcv3 := fun (W : World) (hW : Chg NoB wr W) => own_str' hown W hW
    generalize (bytesB L : ByteArray) = S at *
    have HNX := hid' hnx
    have HV3 := hid' hcv3
    clear hnx HC HB HZ hb hcz hcv3 hown
    go_wp2_with fail
    refine HNX.out.mono ?_
    rintro r w3 ⟨rfl, X3⟩
    have e1 : (S.toList == S.toList) = true := by simp
    have hcv2 := HV3.out _ (X3.alloc (.cells #[.int .i64 4, .int .i64 0, .string S, .int .i64 1] 28))
    clear hcv HV3
    go_wp2_with fail
    go_ret
    exact ⟨rfl, (X.trans X3).alloc _⟩
set_option maxRecDepth 100000 in
set_option maxHeartbeats 400000 in
theorem most_2_true (a0 : Int) (l0 : 0 ≤ a0) (u0 : a0 < 256) (hm : a0 % 3 = 2) (w : World) :
    Calls Try.prog 4 #[.int .u8 a0, .bool true] w fun e w' => e = .returned (.bool true) ∧ Chg NoB w w' := by
  obtain ⟨L, hLL, hLG, hLR⟩ := d2_true
  have HLL := hid' hLL
  have HLG := hid' hLG
  have HLR := hid' hLR
  clear hLL hLG hLR
  have HK := hid' (known8_any w)
  have mk := fun W => make8 20001 W (by omega)
  change ∀ W : World, (Instr.makeSlice 31 (.int .i64 20001) (.int .i64 20001)).run Try.prog W = .ok (.slice (some ⟨W.heap.size, 0, none⟩) 20001 20001) (W.alloc (.cells (madeCells #[.int .u8 0] 20001) 5)) at mk
  go_enter Try.func4, Try.ntmps4
  go_wp2_with fail
  refine HK.out.mono ?_
  rintro r w1 ⟨rfl, X1⟩
  go_wp2_with fail
  have hb0 := blk_new w1 (.cells (madeCells #[.int .u8 0] 20001) 5)
  have X2 := X1.alloc (.cells (madeCells #[.int .u8 0] 20001) 5)
  have hsz : (madeCells #[Value.int IntKind.u8 0] 20001).size = 20001 := size_madeCells _ _
  have hge : w.heap.size ≤ w1.heap.size := X1.size
  generalize hcs : madeCells #[Value.int IntKind.u8 0] 20001 = cs0 at *
  generalize w1.alloc (.cells cs0 5) = w2 at *
  generalize w1.heap.size = g at *
  clear hcs mk X1
  go_loopw [119] (fun iv wr => ∃ (i : Nat) (cur : Array Value), i ≤ 20001 ∧ iv = .int .i64 i ∧ Chg NoB w wr ∧ wr.heap[g]? = some (.cells cur 5 (0, 0)) ∧ cur.size = 20001 ∧ ∀ j, j < i → cur[j]? = some (u8V (32))) (fun iv _ => 20001 - (intOf iv).toNat)
  case atStart => exact ⟨0, cs0, by omega, rfl, X2, hb0, hsz, fun j hj => by omega⟩
  case round =>
    obtain ⟨i, cur, hi, rfl, X, hb, hcz, hcur⟩ := hrel
    have HC := hid' hcur
    have HB := hid' hb
    have HZ := hid' hcz
    clear hcur X2 hb0 hsz
    by_cases hlt : i < 20001
    · have hlt' : (i : Int) < 20001 := by omega
      obtain ⟨old, hold⟩ : ∃ old, cur[i]? = some old := ⟨cur[i]'(by omega), by simp⟩
      have hc : wr.cell? ⟨g, i, none⟩ = some old := by rw [cells_of hb i, hold]
      have hf : wr.frozen? ⟨g, i, none⟩ = false := free_of hb i
      have gl := blk_lt hb
      clear hb hcz hold
      go_wp2_with fail
      go_roundw
      case rel => exact ⟨i + 1, _, by omega, by go_num, X.setCell (.inr hge) _, blk_set HB.out i _, by rw [Array.size_setIfInBounds]; exact HZ.out, fun j hj => by
        rw [Array.getElem?_setIfInBounds]
        by_cases e : i = j
        · subst e; rw [if_pos rfl, if_pos (by rw [HZ.out]; omega)]; rfl
        · rw [if_neg e]; exact HC.out j (by omega)⟩
      case measure => simp [intOf]; omega
    obtain rfl : i = 20001 := by omega
    have hown := own_fill (B := w.heap.size) (l := L) hge hb hcz HLL.out (by decide) (fun j hj => by rw [HC.out j hj, HLG.out j hj])
    have hcv := own_str' hown wr (Chg.refl _ _)
    have hall := all_any (bytesB L) (by rw [size_B, HLL.out]; decide) wr
    rw [bytesB_lst, HLR.out] at hall
    generalize (bytesB L : ByteArray) = S at *
    have HALL := hid' hall
    clear hall hown HC HB HZ hb hcz
    go_wp2_with fail
    refine HALL.out.mono ?_
    rintro r w3 ⟨v, rfl, X3, -, hn⟩
    obtain rfl := hn rfl
    go_wp2_with fail
    go_ret
    exact ⟨rfl, X.trans X3⟩
set_option maxRecDepth 100000 in
set_option maxHeartbeats 400000 in
theorem most_2_false (a0 : Int) (l0 : 0 ≤ a0) (u0 : a0 < 256) (hm : a0 % 3 = 2) (w : World) :
    Calls Try.prog 4 #[.int .u8 a0, .bool false] w fun e w' => e = .returned (.bool true) ∧ Chg NoB w w' := by
  obtain ⟨L, hLL, hLG, hLR⟩ := d2_false
  have HLL := hid' hLL
  have HLG := hid' hLG
  have HLR := hid' hLR
  clear hLL hLG hLR
  have HK := hid' (known8_any w)
  have mk := fun W => make8 20000 W (by omega)
  change ∀ W : World, (Instr.makeSlice 31 (.int .i64 20000) (.int .i64 20000)).run Try.prog W = .ok (.slice (some ⟨W.heap.size, 0, none⟩) 20000 20000) (W.alloc (.cells (madeCells #[.int .u8 0] 20000) 5)) at mk
  go_enter Try.func4, Try.ntmps4
  go_wp2_with fail
  refine HK.out.mono ?_
  rintro r w1 ⟨rfl, X1⟩
  go_wp2_with fail
  have hb0 := blk_new w1 (.cells (madeCells #[.int .u8 0] 20000) 5)
  have X2 := X1.alloc (.cells (madeCells #[.int .u8 0] 20000) 5)
  have hsz : (madeCells #[Value.int IntKind.u8 0] 20000).size = 20000 := size_madeCells _ _
  have hge : w.heap.size ≤ w1.heap.size := X1.size
  generalize hcs : madeCells #[Value.int IntKind.u8 0] 20000 = cs0 at *
  generalize w1.alloc (.cells cs0 5) = w2 at *
  generalize w1.heap.size = g at *
  clear hcs mk X1
  go_loopw [119] (fun iv wr => ∃ (i : Nat) (cur : Array Value), i ≤ 20000 ∧ iv = .int .i64 i ∧ Chg NoB w wr ∧ wr.heap[g]? = some (.cells cur 5 (0, 0)) ∧ cur.size = 20000 ∧ ∀ j, j < i → cur[j]? = some (u8V (32))) (fun iv _ => 20000 - (intOf iv).toNat)
  case atStart => exact ⟨0, cs0, by omega, rfl, X2, hb0, hsz, fun j hj => by omega⟩
  case round =>
    obtain ⟨i, cur, hi, rfl, X, hb, hcz, hcur⟩ := hrel
    have HC := hid' hcur
    have HB := hid' hb
    have HZ := hid' hcz
    clear hcur X2 hb0 hsz
    by_cases hlt : i < 20000
    · have hlt' : (i : Int) < 20000 := by omega
      obtain ⟨old, hold⟩ : ∃ old, cur[i]? = some old := ⟨cur[i]'(by omega), by simp⟩
      have hc : wr.cell? ⟨g, i, none⟩ = some old := by rw [cells_of hb i, hold]
      have hf : wr.frozen? ⟨g, i, none⟩ = false := free_of hb i
      have gl := blk_lt hb
      clear hb hcz hold
      go_wp2_with fail
      go_roundw
      case rel => exact ⟨i + 1, _, by omega, by go_num, X.setCell (.inr hge) _, blk_set HB.out i _, by rw [Array.size_setIfInBounds]; exact HZ.out, fun j hj => by
        rw [Array.getElem?_setIfInBounds]
        by_cases e : i = j
        · subst e; rw [if_pos rfl, if_pos (by rw [HZ.out]; omega)]; rfl
        · rw [if_neg e]; exact HC.out j (by omega)⟩
      case measure => simp [intOf]; omega
    obtain rfl : i = 20000 := by omega
    have hown := own_fill (B := w.heap.size) (l := L) hge hb hcz HLL.out (by decide) (fun j hj => by rw [HC.out j hj, HLG.out j hj])
    have hcv := own_str' hown wr (Chg.refl _ _)
    have hall := all_any (bytesB L) (by rw [size_B, HLL.out]; decide) wr
    rw [bytesB_lst, HLR.out] at hall
    generalize (bytesB L : ByteArray) = S at *
    have HALL := hid' hall
    clear hall hown HC HB HZ hb hcz
    go_wp2_with fail
    refine HALL.out.mono ?_
    rintro r w3 ⟨v, rfl, X3, -, hn⟩
    obtain rfl := hn rfl
    go_wp2_with fail
    go_ret
    exact ⟨rfl, X.trans X3⟩
theorem tokenMost_any (a0 : Int) (a1 : Bool) (l0 : 0 ≤ a0) (u0 : a0 < 256) (w : World) :
    Calls Try.prog 4 #[.int .u8 a0, .bool a1] w fun e w' => e = .returned (.bool true) ∧ Chg NoB w w' := by
  have hm3 : a0 % 3 = 0 ∨ a0 % 3 = 1 ∨ a0 % 3 = 2 := by omega
  rcases hm3 with hm | hm | hm <;> cases a1
  · exact most_0_false a0 l0 u0 hm w
  · exact most_0_true a0 l0 u0 hm w
  · exact most_1_false a0 l0 u0 hm w
  · exact most_1_true a0 l0 u0 hm w
  · exact most_2_false a0 l0 u0 hm w
  · exact most_2_true a0 l0 u0 hm w
end Go.Proofs.Ytibpnkggjkaohaa
