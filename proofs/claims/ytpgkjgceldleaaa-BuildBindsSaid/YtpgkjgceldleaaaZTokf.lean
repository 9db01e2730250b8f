/- Tma, Tmz -/
import Derived.Test.YtpgkjgceldleaaaZTmy
import Derived.Test.YtpgkjgceldleaaaZTxw
/- Walk: token.May at whatever word, the kinds 1, 2, 6 and above, and those that no word has. -/
namespace Go.Proofs.Ytpgkjgceldleaaa
open Go.RowKit

set_option maxRecDepth 100000 in
theorem sign_all (k : Int) (h0 : -9223372036854775808 ≤ k) (h1 : k ≤ 9223372036854775807) (w : World) : Calls Try.prog 37 #[.int .i64 k] w fun e w' => e = .returned (.string (signB k)) ∧ w = w' := by
  have hr : signL k = if k = 7 then [123] else if k = 8 then [125] else if k = 9 then [91] else if k = 10 then [93] else if k = 11 then [60, 60] else if k = 12 then [62, 62] else [] := rfl
  by_cases c7 : k = 7
  · subst c7
    go_enter Try.func37, Try.ntmps37
    go_wp2
    go_ret
    exact ⟨rfl, rfl⟩
  by_cases c8 : k = 8
  · subst c8
    go_enter Try.func37, Try.ntmps37
    go_wp2
    go_ret
    exact ⟨rfl, rfl⟩
  by_cases c9 : k = 9
  · subst c9
    go_enter Try.func37, Try.ntmps37
    go_wp2
    go_ret
    exact ⟨rfl, rfl⟩
  by_cases c10 : k = 10
  · subst c10
    go_enter Try.func37, Try.ntmps37
    go_wp2
    go_ret
    exact ⟨rfl, rfl⟩
  by_cases c11 : k = 11
  · subst c11
    go_enter Try.func37, Try.ntmps37
    go_wp2
    go_ret
    exact ⟨rfl, rfl⟩
  by_cases c12 : k = 12
  · subst c12
    go_enter Try.func37, Try.ntmps37
    go_wp2
    go_ret
    exact ⟨rfl, rfl⟩
  rw [if_neg c7, if_neg c8, if_neg c9, if_neg c10, if_neg c11, if_neg c12] at hr
  have HR := hid' hr
  have u7 : (wrap64 (k - 7) == 0) = false := by
    have : wrap64 (k - 7) ≠ 0 := by unfold wrap64; omega
    simpa using this
  have u8 : (wrap64 (k - 7) == 1) = false := by
    have : wrap64 (k - 7) ≠ 1 := by unfold wrap64; omega
    simpa using this
  have u9 : (wrap64 (k - 7) == 2) = false := by
    have : wrap64 (k - 7) ≠ 2 := by unfold wrap64; omega
    simpa using this
  have u10 : (wrap64 (k - 7) == 3) = false := by
    have : wrap64 (k - 7) ≠ 3 := by unfold wrap64; omega
    simpa using this
  have u11 : (wrap64 (k - 7) == 4) = false := by
    have : wrap64 (k - 7) ≠ 4 := by unfold wrap64; omega
    simpa using this
  have u12 : (wrap64 (k - 7) == 5) = false := by
    have : wrap64 (k - 7) ≠ 5 := by unfold wrap64; omega
    simpa using this
  clear hr c7 c8 c9 c10 c11 c12
  go_enter Try.func37, Try.ntmps37
  go_wp2
  go_ret
  exact ⟨by rw [signB, HR.out]; rfl, rfl⟩
theorem some_ne {s : ByteArray} (c1 : s.size ≠ 0) : s.toList.isEmpty = false := by
  have := tl_size s
  cases hl : s.toList with
  | nil => rw [hl] at this; exact absurd this.symm c1
  | cons => rfl
set_option maxRecDepth 100000 in
theorem mayK_1 (n p : Int) (s : ByteArray) (v : Bool) (hv : (decide (s.size = 0) && decide (-2147483647 ≤ n) && decide (n ≤ 2147483647)) = v) (w : World) :
    Calls Try.prog 10 #[Tok.val ⟨1, n, s, p⟩] w fun r w' => r = .returned (.bool v) ∧ Chg NoB w w' := by
  have X1 := (Chg.refl NoB w).alloc (tokBox 1 n s p)
  by_cases c1 : s.size = 0
  · obtain rfl := size0 c1
    rw [c1, show decide ((0 : Nat) = 0) = true from rfl, Bool.true_and] at hv
    clear c1
    by_cases c2 : -2147483647 ≤ n
    · have d2 : decide (-2147483647 ≤ n) = true := decide_eq_true c2
      rw [d2, Bool.true_and] at hv
      clear c2
      go_enter Try.func10, Try.ntmps10
      go_wp2_with fail
      go_ret
      exact ⟨rfl, X1⟩
    · have d2 : decide (-2147483647 ≤ n) = false := decide_eq_false c2
      rw [d2, Bool.false_and] at hv
      subst hv
      clear c2
      go_enter Try.func10, Try.ntmps10
      go_wp2_with fail
      go_ret
      exact ⟨rfl, X1⟩
  · have c2 := some_ne c1
    rw [decide_eq_false c1, Bool.false_and, Bool.false_and] at hv
    subst hv
    clear c1
    go_enter Try.func10, Try.ntmps10
    go_wp2_with fail
    go_ret
    exact ⟨rfl, X1⟩
set_option maxRecDepth 100000 in
theorem mayK_2 (n p : Int) (s : ByteArray) (v : Bool) (hv : (decide (s.size = 0) && decide (-1073741823 ≤ n) && decide (n ≤ 1073741823)) = v) (w : World) :
    Calls Try.prog 10 #[Tok.val ⟨2, n, s, p⟩] w fun r w' => r = .returned (.bool v) ∧ Chg NoB w w' := by
  have X1 := (Chg.refl NoB w).alloc (tokBox 2 n s p)
  by_cases c1 : s.size = 0
  · obtain rfl := size0 c1
    rw [c1, show decide ((0 : Nat) = 0) = true from rfl, Bool.true_and] at hv
    clear c1
    by_cases c2 : -1073741823 ≤ n
    · have d2 : decide (-1073741823 ≤ n) = true := decide_eq_true c2
      rw [d2, Bool.true_and] at hv
      clear c2
      go_enter Try.func10, Try.ntmps10
      go_wp2_with fail
      go_ret
      exact ⟨rfl, X1⟩
    · have d2 : decide (-1073741823 ≤ n) = false := decide_eq_false c2
      rw [d2, Bool.false_and] at hv
      subst hv
      clear c2
      go_enter Try.func10, Try.ntmps10
      go_wp2_with fail
      go_ret
      exact ⟨rfl, X1⟩
  · have c2 := some_ne c1
    rw [decide_eq_false c1, Bool.false_and, Bool.false_and] at hv
    subst hv
    clear c1
    go_enter Try.func10, Try.ntmps10
    go_wp2_with fail
    go_ret
    exact ⟨rfl, X1⟩
set_option maxRecDepth 100000 in
theorem mayK_n (k n p : Int) (s : ByteArray) (h1 : k ≠ 1) (h2 : k ≠ 2) (hn : n ≠ 0) (w : World) :
    Calls Try.prog 10 #[Tok.val ⟨k, n, s, p⟩] w fun r w' => r = .returned (.bool false) ∧ Chg NoB w w' := by
  have X1 := (Chg.refl NoB w).alloc (tokBox k n s p)
  have e1 : (k == 1) = false := by simpa using h1
  have e2 : (k == 2) = false := by simpa using h2
  have e3 : (n == 0) = false := by simpa using hn
  clear h1 h2 hn
  go_enter Try.func10, Try.ntmps10
  go_wp2_with fail
  go_ret
  exact ⟨rfl, X1⟩
set_option maxRecDepth 100000 in
theorem mayK_6 (p : Int) (s : ByteArray) (hs : s.size ≤ 9223372036854775807) (w : World) :
    Calls Try.prog 10 #[Tok.val ⟨6, 0, s, p⟩] w fun r w' => r = .returned (.bool (decide (s.size ≤ 4000))) ∧ Chg NoB w w' := by
  have X1 := (Chg.refl NoB w).alloc (tokBox 6 0 s p)
  have hm := IntWalk.i64_in (s.size) (by omega)
  have e : decide (s.size ≤ 4000) = decide ((s.size : Int) ≤ 4000) := by
    rw [decide_eq_decide]; omega
  rw [e]
  go_enter Try.func10, Try.ntmps10
  go_wp2_with fail
  go_ret
  exact ⟨rfl, X1⟩
theorem signB_ne (k : Int) (h : signL k ≠ []) : (signB k).toList.isEmpty = false := by
  apply some_ne
  intro e
  exact h (List.eq_nil_of_length_eq_zero e)
set_option maxRecDepth 100000 in
theorem mayK_s (k p : Int) (s : ByteArray) (h0 : -9223372036854775808 ≤ k) (h9 : k ≤ 9223372036854775807) (hk : ∀ j : Int, 1 ≤ j → j ≤ 6 → k ≠ j) (v : Bool) (hv : (decide (signL k ≠ []) && decide (s.size = 0)) = v) (w : World) :
    Calls Try.prog 10 #[Tok.val ⟨k, 0, s, p⟩] w fun r w' => r = .returned (.bool v) ∧ Chg NoB w w' := by
  have X1 := (Chg.refl NoB w).alloc (tokBox k 0 s p)
  have HI := hid' (fun w' => sign_all k h0 h9 w')
  have e1 : (k == 1) = false := by simpa using hk 1 (by omega) (by omega)
  have e2 : (k == 2) = false := by simpa using hk 2 (by omega) (by omega)
  have e3 : (k == 3) = false := by simpa using hk 3 (by omega) (by omega)
  have e4 : (k == 4) = false := by simpa using hk 4 (by omega) (by omega)
  have e5 : (k == 5) = false := by simpa using hk 5 (by omega) (by omega)
  have e6 : (k == 6) = false := by simpa using hk 6 (by omega) (by omega)
  have hb := blk_new w (tokBox k 0 s p)
  clear hk h0 h9
  by_cases c1 : signL k = []
  · rw [decide_eq_false (not_not_intro c1), Bool.false_and] at hv
    subst hv
    rw [show signB k = ⟨#[]⟩ by unfold signB; rw [c1]] at HI
    clear c1
    go_enter Try.func10, Try.ntmps10
    go_wp2_with fail
    refine (HI.out _).mono ?_
    rintro r w2 ⟨rfl, rfl⟩
    have R1 := cells_of hb
    have l1 := blk_lt hb
    go_wp2_with fail
    go_ret
    exact ⟨rfl, X1⟩
  · rw [decide_eq_true c1, Bool.true_and] at hv
    have c3 := signB_ne k c1
    generalize signB k = B at *
    clear c1
    by_cases c2 : s.size = 0
    · obtain rfl := size0 c2
      rw [decide_eq_true c2] at hv
      subst hv
      go_enter Try.func10, Try.ntmps10
      go_wp2_with fail
      refine (HI.out _).mono ?_
      rintro r w2 ⟨rfl, rfl⟩
      have R1 := cells_of hb
      have l1 := blk_lt hb
      go_wp2_with fail
      go_ret
      exact ⟨rfl, X1⟩
    · have c4 := some_ne c2
      rw [decide_eq_false c2] at hv
      subst hv
      clear c2
      go_enter Try.func10, Try.ntmps10
      go_wp2_with fail
      refine (HI.out _).mono ?_
      rintro r w2 ⟨rfl, rfl⟩
      have R1 := cells_of hb
      have l1 := blk_lt hb
      go_wp2_with fail
      go_ret
      exact ⟨rfl, X1⟩
end Go.Proofs.Ytpgkjgceldleaaa
/- Walk: token.May at whatever word (all kinds). -/
namespace Go.Proofs.Ytpgkjgceldleaaa
open Go.RowKit

set_option maxRecDepth 100000 in
theorem mayK_4 (p : Int) (s : ByteArray) (hs : s.size ≤ 9223372036854775807) (v : Bool) (hv : (decide (s.size ≤ 100) && decide (regL s.toList = s.size)) = v) (w : World) :
    Calls Try.prog 10 #[Tok.val ⟨4, 0, s, p⟩] w fun r w' => r = .returned (.bool v) ∧ Chg NoB w w' := by
  have hm := IntWalk.i64_in (s.size) (by omega)
  have X1 := (Chg.refl NoB w).alloc (tokBox 4 0 s p)
  have hb := blk_new w (tokBox 4 0 s p)
  by_cases h : s.size ≤ 100
  · have HR := hid' (fun w' => regular_any s 0 (by omega) (by omega) w')
    rw [List.drop_zero] at HR
    have d1 : decide ((s.size : Int) ≤ 100) = true := by simp; omega
    have e1 : (((regL s.toList : Nat) : Int) == (s.size : Int)) = v := by
      rw [← hv]; simp [h]
      rw [Bool.eq_iff_iff]; simp
      omega
    clear h hv
    go_enter Try.func10, Try.ntmps10
    go_upto_region 16 with (fail)
    generalize w.alloc _ = w1 at *
    generalize w.heap.size = b at *
    have RC := Chg.cells (S := NoB) hb id
    have hS1 : Chg NoB w1 w1 := Chg.refl _ _
    have l1 := blk_lt hb
    go_region_held3 (fun W' => Chg NoB w1 W') (first | (with_reducible assumption) | (with_reducible exact Chg.drew (by with_reducible assumption)))
      (first | (go_at_call 36; refine (HR.out _).mono ?_; rintro r w4 ⟨rfl, rfl⟩))
    go_wp2_with fail
    go_ret
    exact ⟨rfl, X1.trans (by first | with_reducible assumption | (with_reducible exact Chg.drew (by with_reducible assumption)))⟩
  · have d1 : decide ((s.size : Int) ≤ 100) = false := by simp; omega
    have e1 : v = false := by rw [← hv]; simp; omega
    subst e1
    clear h hv
    go_enter Try.func10, Try.ntmps10
    go_upto_region 16 with (fail)
    generalize w.alloc _ = w1 at *
    generalize w.heap.size = b at *
    have R1 := cells_of hb
    have l1 := blk_lt hb
    go_quiet (fail)
    go_wp2_with fail
    go_ret
    exact ⟨rfl, X1.drewN _⟩
set_option maxRecDepth 100000 in
theorem mayK_5 (p : Int) (s : ByteArray) (hs : s.size ≤ 9223372036854775807) (v : Bool) (hv : (decide (s.size ≤ 100) && decide (regL s.toList = s.size)) = v) (w : World) :
    Calls Try.prog 10 #[Tok.val ⟨5, 0, s, p⟩] w fun r w' => r = .returned (.bool v) ∧ Chg NoB w w' := by
  have hm := IntWalk.i64_in (s.size) (by omega)
  have X1 := (Chg.refl NoB w).alloc (tokBox 5 0 s p)
  have hb := blk_new w (tokBox 5 0 s p)
  by_cases h : s.size ≤ 100
  · have HR := hid' (fun w' => regular_any s 0 (by omega) (by omega) w')
    rw [List.drop_zero] at HR
    have d1 : decide ((s.size : Int) ≤ 100) = true := by simp; omega
    have e1 : (((regL s.toList : Nat) : Int) == (s.size : Int)) = v := by
      rw [← hv]; simp [h]
      rw [Bool.eq_iff_iff]; simp
      omega
    clear h hv
    go_enter Try.func10, Try.ntmps10
    go_upto_region 16 with (fail)
    generalize w.alloc _ = w1 at *
    generalize w.heap.size = b at *
    have RC := Chg.cells (S := NoB) hb id
    have hS1 : Chg NoB w1 w1 := Chg.refl _ _
    have l1 := blk_lt hb
    go_region_held3 (fun W' => Chg NoB w1 W') (first | (with_reducible assumption) | (with_reducible exact Chg.drew (by with_reducible assumption)))
      (first | (go_at_call 36; refine (HR.out _).mono ?_; rintro r w4 ⟨rfl, rfl⟩))
    go_wp2_with fail
    go_ret
    exact ⟨rfl, X1.trans (by first | with_reducible assumption | (with_reducible exact Chg.drew (by with_reducible assumption)))⟩
  · have d1 : decide ((s.size : Int) ≤ 100) = false := by simp; omega
    have e1 : v = false := by rw [← hv]; simp; omega
    subst e1
    clear h hv
    go_enter Try.func10, Try.ntmps10
    go_upto_region 16 with (fail)
    generalize w.alloc _ = w1 at *
    generalize w.heap.size = b at *
    have R1 := cells_of hb
    have l1 := blk_lt hb
    go_quiet (fail)
    go_wp2_with fail
    go_ret
    exact ⟨rfl, X1.drewN _⟩
set_option maxRecDepth 100000 in
set_option maxHeartbeats 400000 in
theorem mayK_3 (p : Int) (s : ByteArray) (hs : s.size ≤ 9223372036854775807) (v : Bool) (hv : (decide ((readF s.toList).2.2 = 3) && decide (s.size ≠ 0) && decide (s.size ≤ 100) && decide (regL s.toList = s.size)) = v) (w : World) :
    Calls Try.prog 10 #[Tok.val ⟨3, 0, s, p⟩] w fun r w' => r = .returned (.bool v) ∧ Chg NoB w w' := by
  have HD := hid' (fun w' => read_any s (by omega) w')
  generalize readF s.toList = RD at *
  obtain ⟨rk, rv, re⟩ := RD
  simp only at hv
  have hm := IntWalk.i64_in (s.size) (by omega)
  have X1 := (Chg.refl NoB w).alloc (tokBox 3 0 s p)
  have hb := blk_new w (tokBox 3 0 s p)
  by_cases c0 : re = 3
  · subst c0
    by_cases c1 : s.size = 0
    · obtain rfl := size0 c1
      have e1 : v = false := by rw [← hv, c1]; rfl
      subst e1
      clear hv
      go_enter Try.func10, Try.ntmps10
      go_wp2_with fail
      refine (HD.out _).mono ?_
      rintro r w2 ⟨rfl, X2⟩
      generalize hW : w.alloc _ = w1 at *
      clear hW
      have hb2 := X2.blk hb id
      have X3 := X1.trans X2
      generalize w.heap.size = b at *
      clear hb X1 X2
      have R1 := cells_of hb2
      have l1 := blk_lt hb2
      go_wp2_with fail
      go_ret
      exact ⟨rfl, X3⟩
    · have c2 : s.toList.isEmpty = false := by
        have := tl_size s
        cases hl : s.toList with
        | nil => rw [hl] at this; exact absurd this.symm c1
        | cons => rfl
      by_cases h : s.size ≤ 100
      · have HR := hid' (fun w' => regular_any s 0 (by omega) (by omega) w')
        rw [List.drop_zero] at HR
        have d1 : decide ((s.size : Int) ≤ 100) = true := by simp; omega
        have e1 : (((regL s.toList : Nat) : Int) == (s.size : Int)) = v := by
          rw [← hv]; simp [h, c1]
          rw [Bool.eq_iff_iff]; simp
          omega
        clear h hv c1
        go_enter Try.func10, Try.ntmps10
        go_wp2_with fail
        refine (HD.out _).mono ?_
        rintro r w2 ⟨rfl, X2⟩
        generalize hW : w.alloc _ = w1 at *
        clear hW
        have hb2 := X2.blk hb id
        have X3 := X1.trans X2
        generalize w.heap.size = b at *
        clear hb X1 X2
        have R1 := cells_of hb2
        have l1 := blk_lt hb2
        go_upto_region 16 with (fail)
        have RC := Chg.cells (S := NoB) hb2 id
        have hS1 : Chg NoB w2 w2 := Chg.refl _ _
        go_region_held3 (fun W' => Chg NoB w2 W') (first | (with_reducible assumption) | (with_reducible exact Chg.drew (by with_reducible assumption)))
          (first | (go_at_call 36; refine (HR.out _).mono ?_; rintro r w4 ⟨rfl, rfl⟩))
        go_wp2_with fail
        go_ret
        exact ⟨rfl, X3.trans (by first | with_reducible assumption | (with_reducible exact Chg.drew (by with_reducible assumption)))⟩
      · have d1 : decide ((s.size : Int) ≤ 100) = false := by simp; omega
        have e1 : v = false := by rw [← hv]; simp; omega
        subst e1
        clear h hv c1
        go_enter Try.func10, Try.ntmps10
        go_wp2_with fail
        refine (HD.out _).mono ?_
        rintro r w2 ⟨rfl, X2⟩
        generalize hW : w.alloc _ = w1 at *
        clear hW
        have hb2 := X2.blk hb id
        have X3 := X1.trans X2
        generalize w.heap.size = b at *
        clear hb X1 X2
        have R1 := cells_of hb2
        have l1 := blk_lt hb2
        go_upto_region 16 with (fail)
        go_quiet (fail)
        go_wp2_with fail
        go_ret
        exact ⟨rfl, X3.drewN _⟩
  · have e0 : (re == 3) = false := by simpa using c0
    have e1 : v = false := by rw [← hv]; simp [c0]
    subst e1
    clear hv c0
    go_enter Try.func10, Try.ntmps10
    go_wp2_with fail
    refine (HD.out _).mono ?_
    rintro r w2 ⟨rfl, X2⟩
    generalize hW : w.alloc _ = w1 at *
    clear hW
    have hb2 := X2.blk hb id
    have X3 := X1.trans X2
    generalize w.heap.size = b at *
    clear hb X1 X2
    have R1 := cells_of hb2
    have l1 := blk_lt hb2
    go_wp2_with fail
    all_goals first | (go_ret; exact ⟨rfl, X3⟩) | (exfalso; simp_all; done)
/-- token.May answers mayT. -/
theorem mayTok_any (t : Tok) (hs : t.s.size ≤ 9223372036854775807) (h0 : -9223372036854775808 ≤ t.kind) (h9 : t.kind ≤ 9223372036854775807) (w : World) :
    Calls Try.prog 10 #[t.val] w fun r w' => r = .returned (.bool (mayT t)) ∧ Chg NoB w w' := by
  obtain ⟨k, n, s, p⟩ := t
  simp only at hs h0 h9
  obtain ⟨v, hv⟩ : ∃ v, mayT ⟨k, n, s, p⟩ = v := ⟨_, rfl⟩
  rw [hv]
  unfold mayT at hv
  simp only at hv
  by_cases h1 : k = 1
  · subst h1; rw [if_pos rfl] at hv; exact mayK_1 n p s v hv w
  rw [if_neg h1] at hv
  by_cases h2 : k = 2
  · subst h2; rw [if_pos rfl] at hv; exact mayK_2 n p s v hv w
  rw [if_neg h2] at hv
  by_cases hn : n ≠ 0
  · rw [if_pos hn] at hv; subst hv; exact mayK_n k n p s h1 h2 hn w
  rw [if_neg hn] at hv
  have hn0 : n = 0 := by omega
  subst hn0
  by_cases h3 : k = 3
  · subst h3; rw [if_pos rfl] at hv; exact mayK_3 p s hs v hv w
  rw [if_neg h3] at hv
  by_cases h4 : k = 4
  · subst h4; rw [if_pos (.inl rfl)] at hv; exact mayK_4 p s hs v hv w
  by_cases h5 : k = 5
  · subst h5; rw [if_pos (.inr rfl)] at hv; exact mayK_5 p s hs v hv w
  rw [if_neg (fun h => h.elim h4 h5)] at hv
  by_cases h6 : k = 6
  · subst h6; rw [if_pos rfl] at hv; rw [← hv]; exact mayK_6 p s hs w
  rw [if_neg h6] at hv
  exact mayK_s k p s h0 h9 (fun j a b => by omega) v hv w
end Go.Proofs.Ytpgkjgceldleaaa
