/- Walks: token.May at the words that SayReads makes. -/
import Derived.Test.YtpgkjgceldleaaaZTokd
namespace Go.Proofs.Ytpgkjgceldleaaa
open Go.RowKit

abbrev tokBox (k n : Int) (s : ByteArray) (p : Int) : Obj := .cells #[.int .i64 k, .int .i64 n, .string s, .int .i64 p] 31
set_option maxRecDepth 100000 in
theorem tmay_1 (n : Int) (h0 : -2147483647 ≤ n) (h1 : n ≤ 2147483647) (w : World) :
    Calls Try.prog 10 #[Tok.val ⟨1, n, ⟨#[]⟩, 0⟩] w fun r w' => r = .returned (.bool true) ∧ Chg NoB w w' := by
  have d1 : decide (-2147483647 ≤ n) = true := by simpa using h0
  have d2 : decide (n ≤ 2147483647) = true := by simpa using h1
  go_enter Try.func10, Try.ntmps10
  go_wp2_with fail
  go_ret
  exact ⟨rfl, (Chg.refl NoB w).alloc _⟩
set_option maxRecDepth 100000 in
theorem tmay_2 (n : Int) (h0 : -1073741823 ≤ n) (h1 : n ≤ 1073741823) (w : World) :
    Calls Try.prog 10 #[Tok.val ⟨2, n, ⟨#[]⟩, 0⟩] w fun r w' => r = .returned (.bool true) ∧ Chg NoB w w' := by
  have d1 : decide (-1073741823 ≤ n) = true := by simpa using h0
  have d2 : decide (n ≤ 1073741823) = true := by simpa using h1
  go_enter Try.func10, Try.ntmps10
  go_wp2_with fail
  go_ret
  exact ⟨rfl, (Chg.refl NoB w).alloc _⟩
set_option maxRecDepth 100000 in
theorem tmay_6 (s : ByteArray) (hs : s.size ≤ 4000) (w : World) :
    Calls Try.prog 10 #[Tok.val ⟨6, 0, s, 0⟩] w fun r w' => r = .returned (.bool true) ∧ Chg NoB w w' := by
  have d1 : decide ((s.size : Int) ≤ 4000) = true := by simp; omega
  go_enter Try.func10, Try.ntmps10
  go_wp2_with fail
  go_ret
  exact ⟨rfl, (Chg.refl NoB w).alloc _⟩
set_option maxRecDepth 100000 in
theorem tmay_4 (s : ByteArray) (hs : s.size ≤ 1000000) (v : Bool) (hv : (decide (s.size ≤ 100) && decide (regL s.toList = s.size)) = v) (w : World) :
    Calls Try.prog 10 #[Tok.val ⟨4, 0, s, 0⟩] w fun r w' => r = .returned (.bool v) ∧ Chg NoB w w' := by
  have HR := hid' (fun w' => regular_any s 0 hs (by omega) w')
  rw [List.drop_zero] at HR
  have X1 := (Chg.refl NoB w).alloc (tokBox 4 0 s 0)
  have hb := blk_new w (tokBox 4 0 s 0)
  by_cases h : s.size ≤ 100
  · have d1 : decide ((s.size : Int) ≤ 100) = true := by simp; omega
    have e1 : (((regL s.toList : Nat) : Int) == (s.size : Int)) = v := by
      rw [← hv]; simp [h]
      rw [Bool.eq_iff_iff]; simp
      omega
    clear h hv
    go_enter Try.func10, Try.ntmps10
    go_upto_region 16 with (fail)
    generalize w.alloc _ = w1 at *
    generalize w.heap.size = b at *
    have RC := Chg.cells (S := NoB) hb id
    have hS1 : Chg NoB w1 w1 := Chg.refl _ _
    have l1 := blk_lt hb
    go_region_held3 (fun W' => Chg NoB w1 W') (first | (with_reducible assumption) | (with_reducible exact Chg.drew (by with_reducible assumption)))
      (first | (go_at_call 36; refine (HR.out _).mono ?_; rintro r w4 ⟨rfl, rfl⟩))
    go_wp2_with fail
    go_ret
    exact ⟨rfl, X1.trans (by first | with_reducible assumption | (with_reducible exact Chg.drew (by with_reducible assumption)))⟩
  · have d1 : decide ((s.size : Int) ≤ 100) = false := by simp; omega
    have e1 : v = false := by rw [← hv]; simp; omega
    subst e1
    clear h hv
    go_enter Try.func10, Try.ntmps10
    go_upto_region 16 with (fail)
    generalize w.alloc _ = w1 at *
    generalize w.heap.size = b at *
    have R1 := cells_of hb
    have l1 := blk_lt hb
    go_quiet (fail)
    go_wp2_with fail
    go_ret
    exact ⟨rfl, X1.drewN _⟩
set_option maxRecDepth 100000 in
set_option maxHeartbeats 400000 in
theorem tmay_3 (s : ByteArray) (hs : s.size ≤ 1000000) (v : Bool) (hv : (decide ((readF s.toList).2.2 = 3) && decide (s.size ≠ 0) && decide (s.size ≤ 100) && decide (regL s.toList = s.size)) = v) (w : World) :
    Calls Try.prog 10 #[Tok.val ⟨3, 0, s, 0⟩] w fun r w' => r = .returned (.bool v) ∧ Chg NoB w w' := by
  have HR := hid' (fun w' => regular_any s 0 hs (by omega) w')
  rw [List.drop_zero] at HR
  have HD := hid' (fun w' => read_any s (by omega) w')
  generalize readF s.toList = RD at *
  obtain ⟨rk, rv, re⟩ := RD
  simp only at hv
  have X1 := (Chg.refl NoB w).alloc (tokBox 3 0 s 0)
  have hb := blk_new w (tokBox 3 0 s 0)
  by_cases c0 : re = 3
  · subst c0
    by_cases c1 : s.size = 0
    · obtain rfl := size0 c1
      have e1 : v = false := by rw [← hv, c1]; rfl
      subst e1
      clear hv HR
      go_enter Try.func10, Try.ntmps10
      go_wp2_with fail
      refine (HD.out _).mono ?_
      rintro r w2 ⟨rfl, X2⟩
      generalize hW : w.alloc _ = w1 at *
      clear hW
      have hb2 := X2.blk hb id
      have X3 := X1.trans X2
      generalize w.heap.size = b at *
      clear hb X1 X2
      have R1 := cells_of hb2
      have l1 := blk_lt hb2
      go_wp2_with fail
      go_ret
      exact ⟨rfl, X3⟩
    · have c2 : s.toList.isEmpty = false := by
        have := tl_size s
        cases hl : s.toList with
        | nil => rw [hl] at this; exact absurd this.symm c1
        | cons => rfl
      by_cases h : s.size ≤ 100
      · have d1 : decide ((s.size : Int) ≤ 100) = true := by simp; omega
        have e1 : (((regL s.toList : Nat) : Int) == (s.size : Int)) = v := by
          rw [← hv]; simp [h, c1]
          rw [Bool.eq_iff_iff]; simp
          omega
        clear h hv c1
        go_enter Try.func10, Try.ntmps10
        go_wp2_with fail
        refine (HD.out _).mono ?_
        rintro r w2 ⟨rfl, X2⟩
        generalize hW : w.alloc _ = w1 at *
        clear hW
        have hb2 := X2.blk hb id
        have X3 := X1.trans X2
        generalize w.heap.size = b at *
        clear hb X1 X2
        have R1 := cells_of hb2
        have l1 := blk_lt hb2
        go_upto_region 16 with (fail)
        have RC := Chg.cells (S := NoB) hb2 id
        have hS1 : Chg NoB w2 w2 := Chg.refl _ _
        go_region_held3 (fun W' => Chg NoB w2 W') (first | (with_reducible assumption) | (with_reducible exact Chg.drew (by with_reducible assumption)))
          (first | (go_at_call 36; refine (HR.out _).mono ?_; rintro r w4 ⟨rfl, rfl⟩))
        go_wp2_with fail
        go_ret
        exact ⟨rfl, X3.trans (by first | with_reducible assumption | (with_reducible exact Chg.drew (by with_reducible assumption)))⟩
      · have d1 : decide ((s.size : Int) ≤ 100) = false := by simp; omega
        have e1 : v = false := by rw [← hv]; simp; omega
        subst e1
        clear h hv c1
        go_enter Try.func10, Try.ntmps10
        go_wp2_with fail
        refine (HD.out _).mono ?_
        rintro r w2 ⟨rfl, X2⟩
        generalize hW : w.alloc _ = w1 at *
        clear hW
        have hb2 := X2.blk hb id
        have X3 := X1.trans X2
        generalize w.heap.size = b at *
        clear hb X1 X2
        have R1 := cells_of hb2
        have l1 := blk_lt hb2
        go_upto_region 16 with (fail)
        go_quiet (fail)
        go_wp2_with fail
        go_ret
        exact ⟨rfl, X3.drewN _⟩
  · have e0 : (re == 3) = false := by simpa using c0
    have e1 : v = false := by rw [← hv]; simp [c0]
    subst e1
    clear hv HR c0
    go_enter Try.func10, Try.ntmps10
    go_wp2_with fail
    refine (HD.out _).mono ?_
    rintro r w2 ⟨rfl, X2⟩
    generalize hW : w.alloc _ = w1 at *
    clear hW
    have hb2 := X2.blk hb id
    have X3 := X1.trans X2
    generalize w.heap.size = b at *
    clear hb X1 X2
    have R1 := cells_of hb2
    have l1 := blk_lt hb2
    go_wp2_with fail
    all_goals first | (go_ret; exact ⟨rfl, X3⟩) | (exfalso; simp_all; done)
end Go.Proofs.Ytpgkjgceldleaaa
