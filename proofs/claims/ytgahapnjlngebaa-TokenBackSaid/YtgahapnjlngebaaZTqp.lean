/- Walk: quote's (*taken).paren. -/
import Derived.Test.YtgahapnjlngebaaZTqe
namespace Go.Proofs.Ytgahapnjlngebaa
open Go.RowKit

abbrev u8of (x : Int) : UInt8 := UInt8.ofNat x.toNat
theorem u8of_val (x : Int) (h0 : 0 ≤ x) (h1 : x < 256) : u8V (u8of x) = .int .u8 x := by
  simp [u8V, u8of, UInt8.toNat_ofNat']; omega
/-- A string within (..): what is left, where we are, how deep, what was taken. The error, what was taken, the place behind it. -/
def parenW (l : List UInt8) (i : Nat) (deep : Nat) (b : List UInt8) : Int × List UInt8 × Nat :=
  match l with
  | [] => (4, [], 0)
  | c :: t =>
    if c = 40 then if 4000 ≤ b.length then (5, [], 0) else parenW t (i + 1) (deep + 1) (b ++ [c])
    else if c = 41 then if deep = 1 then (0, b, i + 1) else if 4000 ≤ b.length then (5, [], 0) else parenW t (i + 1) (deep - 1) (b ++ [c])
    else if c = 13 then if 4000 ≤ b.length then (5, [], 0) else if t.head? = some 10 then parenW (t.drop 1) (i + 2) deep (b ++ [10]) else parenW t (i + 1) deep (b ++ [10])
    else if c = 92 then
      if t = [] then (4, [], 0)
      else if (escF t).2.2 = true then if 4000 ≤ b.length then (5, [], 0) else parenW (t.drop (escF t).2.1) (i + 1 + (escF t).2.1) deep (b ++ [u8of (escF t).1])
      else parenW (t.drop (escF t).2.1) (i + 1 + (escF t).2.1) deep b
    else if 4000 ≤ b.length then (5, [], 0) else parenW t (i + 1) deep (b ++ [c])
termination_by l.length
decreasing_by all_goals (simp only [List.length_cons, List.length_drop]; omega)

theorem parenW_at (s : ByteArray) (j : Nat) (h : j < s.size) (deep : Nat) (b : List UInt8) : parenW (s.toList.drop j) j deep b =
    if s[j] = 40 then if 4000 ≤ b.length then (5, [], 0) else parenW (s.toList.drop (j + 1)) (j + 1) (deep + 1) (b ++ [s[j]])
    else if s[j] = 41 then if deep = 1 then (0, b, j + 1) else if 4000 ≤ b.length then (5, [], 0) else parenW (s.toList.drop (j + 1)) (j + 1) (deep - 1) (b ++ [s[j]])
    else if s[j] = 13 then if 4000 ≤ b.length then (5, [], 0) else if (s.toList.drop (j + 1)).head? = some 10 then parenW (s.toList.drop (j + 2)) (j + 2) deep (b ++ [10]) else parenW (s.toList.drop (j + 1)) (j + 1) deep (b ++ [10])
    else if s[j] = 92 then
      if s.toList.drop (j + 1) = [] then (4, [], 0)
      else if (escF (s.toList.drop (j + 1))).2.2 = true then if 4000 ≤ b.length then (5, [], 0) else parenW (s.toList.drop (j + 1 + (escF (s.toList.drop (j + 1))).2.1)) (j + 1 + (escF (s.toList.drop (j + 1))).2.1) deep (b ++ [u8of (escF (s.toList.drop (j + 1))).1])
      else parenW (s.toList.drop (j + 1 + (escF (s.toList.drop (j + 1))).2.1)) (j + 1 + (escF (s.toList.drop (j + 1))).2.1) deep b
    else if 4000 ≤ b.length then (5, [], 0) else parenW (s.toList.drop (j + 1)) (j + 1) deep (b ++ [s[j]]) := by
  rw [drop_at s j h, parenW]
  simp only [List.drop_drop]
theorem parenW_end (s : ByteArray) (j i : Nat) (h : s.size ≤ j) (deep : Nat) (b : List UInt8) : parenW (s.toList.drop j) i deep b = (4, [], 0) := by rw [drop_end s j h, parenW]
theorem octV_le (l : List UInt8) (h : ∀ c ∈ l, isOct c = true) (v : Int) (h0 : 0 ≤ v) : 0 ≤ octV v l := by
  induction l generalizing v with
  | nil => exact h0
  | cons c l ih =>
    rw [octV_at]
    have hc := h c (List.mem_cons_self ..)
    simp only [isOct, Bool.and_eq_true, decide_eq_true_eq] at hc
    exact ih (fun x hx => h x (List.mem_cons_of_mem _ hx)) _ (by omega)
theorem escF_cons (c : UInt8) (t : List UInt8) : escF (c :: t) =
    if c = 98 then ((8 : Int), 1, true) else if c = 116 then (9, 1, true) else if c = 110 then (10, 1, true) else if c = 102 then (12, 1, true) else if c = 114 then (13, 1, true)
    else if c = 13 ∧ t.head? = some 10 then (0, 2, false)
    else if c = 10 ∨ c = 13 then (0, 1, false)
    else if (c.toNat : Int) < 48 ∨ 55 < (c.toNat : Int) then (c.toNat, 1, true)
    else (octV 0 (octL (c :: t)) % 256, (octL (c :: t)).length, true) := rfl
theorem escF_le (l : List UInt8) : 0 ≤ (escF l).1 ∧ (escF l).1 < 256 ∧ (escF l).2.1 ≤ l.length := by
  cases l with
  | nil => simp [escF]
  | cons c t =>
    rw [escF_cons]
    have hc : (c.toNat : Int) < 256 := by have := c.toNat_lt; omega
    have h0 : 0 ≤ octV 0 (octL (c :: t)) % 256 := Int.emod_nonneg _ (by decide)
    have h1 : octV 0 (octL (c :: t)) % 256 < 256 := Int.emod_lt_of_pos _ (by decide)
    have h2 : (octL (c :: t)).length ≤ (c :: t).length := by
      unfold octL
      exact Nat.le_trans (List.takeWhile_sublist _).length_le (by rw [List.length_take]; omega)
    split; · exact ⟨by simp, by simp, by simp⟩
    split; · exact ⟨by simp, by simp, by simp⟩
    split; · exact ⟨by simp, by simp, by simp⟩
    split; · exact ⟨by simp, by simp, by simp⟩
    split; · exact ⟨by simp, by simp, by simp⟩
    split
    · rename_i hx
      refine ⟨by simp, by simp, ?_⟩
      cases t with
      | nil => simp at hx
      | cons => simp
    split; · exact ⟨by simp, by simp, by simp⟩
    split; · exact ⟨by simp, by simp; omega, by simp⟩
    exact ⟨h0, h1, h2⟩
theorem at8_one (w : World) (x : UInt8) : At8 (w.alloc (.cells #[.int .u8 x.toNat] 5)) w.heap.size [x] := fun j hj => by
  obtain rfl : j = 0 := by simpa using hj
  have := cells_of (blk_new w (.cells #[.int .u8 x.toNat] 5)) 0
  simp only [List.getD_cons_zero]
  exact this
theorem at8_int (w : World) (x : Int) (h0 : 0 ≤ x) (h1 : x < 256) : At8 (w.alloc (.cells #[.int .u8 x] 5)) w.heap.size [u8of x] := fun j hj => by
  obtain rfl : j = 0 := by simpa using hj
  have := cells_of (blk_new w (.cells #[.int .u8 x] 5)) 0
  have e := u8of_val x h0 h1
  simp only [List.getD_cons_zero, e]
  exact this
/-- What a way of reading a string leaves. -/
def TkEnd (w0 : World) (bt : Nat) (R : Int × List UInt8 × Nat) (r : Ending) (w' : World) : Prop :=
  ∃ v b, r = .returned (.int .i64 (R.2.2 : Nat)) ∧ Tk w0 w' bt v b R.1 ∧ (R.1 = 0 → b = R.2.1)

set_option maxRecDepth 100000 in
set_option maxHeartbeats 2000000 in
theorem qparen_any {w0 w : World} {bt : Nat} {v0 : Value} (A : Tk w0 w bt v0 [] 0) (s : ByteArray) (hs : s.size ≤ 1000000) (h1 : 1 ≤ s.size) :
    Calls Try.prog 55 #[.pointer (some ⟨bt, 0, none⟩), .string s] w (TkEnd w0 bt (parenW (s.toList.drop 1) 1 1 [])) := by
  go_enter Try.func55, Try.ntmps55
  go_wp2_with fail
  go_loopw [5, 6] (fun dv iv wr => ∃ (j d : Nat) (b : List UInt8) (v : Value), 1 ≤ j ∧ j ≤ s.size ∧ 1 ≤ d ∧ d ≤ j ∧ iv = .int .i64 j ∧ dv = .int .i64 d ∧ b.length ≤ 4000 ∧ Tk w0 wr bt v b 0 ∧ parenW (s.toList.drop 1) 1 1 [] = parenW (s.toList.drop j) j d b) (fun _ i _ => s.size - (intOf i).toNat)
  case atStart => exact ⟨1, 1, [], v0, Nat.le_refl _, h1, Nat.le_refl _, Nat.le_refl _, rfl, rfl, Nat.zero_le _, A, rfl⟩
  case round =>
    obtain ⟨j, d, b, v, hj1, hj2, hd1, hd2, rfl, rfl, hbl, A1, hW⟩ := hrel
    clear A
    have HA := hid' A1
    clear A1
    by_cases hlt : j < s.size
    rotate_left
    · obtain rfl : j = s.size := by omega
      have HW := hid' (hW.trans (parenW_end s s.size _ (Nat.le_refl _) d b))
      clear hW
      go_wp2_with fail
      refine (qbad_any HA.out 4).mono ?_
      rintro r w1 ⟨rfl, A2⟩
      have HB := hid' A2
      clear A2
      go_wp2_with fail
      go_ret
      unfold TkEnd
      rw [HW.out]
      exact ⟨v, b, rfl, HB.out, fun h => absurd h (by decide)⟩
    have hlt' : (j : Int) < s.size := by omega
    have hE := hW.trans (parenW_at s j hlt d b)
    clear hW
    by_cases e40 : s[j] = 40
    · have u40 := u8T 40 e40 (40 : Int)
      by_cases hf : 4000 ≤ b.length
      · have HC := hid' (hE.trans ((if_pos e40).trans (if_pos hf)))
        clear hE e40
        go_wp2_with fail
        refine (qadd_full (HA.out.pure (Chg.alloc (Chg.refl NoB _) _)) _ [s[j]] _ hbl (by simp) (by simp; omega)).mono ?_
        rintro r w1 ⟨rfl, A2⟩
        have HB := hid' A2
        clear A2
        go_wp2_with fail
        go_ret
        unfold TkEnd
        rw [HC.out]
        exact ⟨v, b, rfl, HB.out, fun h => absurd h (by decide)⟩
      · have HC := hid' (hE.trans ((if_pos e40).trans (if_neg hf)))
        clear hE e40
        go_wp2_with fail
        refine (qadd_any (HA.out.pure (Chg.alloc (Chg.refl NoB _) _)) _ [s[j]] _ (at8_one _ _) (by simp) (by simp; omega)).mono ?_
        rintro r w1 ⟨rfl, v', A2⟩
        have HB := hid' A2
        clear A2
        go_wp2_with fail
        go_roundw
        case rel => exact ⟨j + 1, d + 1, _, v', by omega, by omega, by omega, by omega, by first | rfl | go_num, by first | rfl | go_num, by simp; omega, HB.out, HC.out⟩
        case measure => simp [intOf]; omega
    have u40 := u8F 40 e40 (40 : Int)
    have hE1 := hE.trans (if_neg e40)
    clear hE
    by_cases e41 : s[j] = 41
    · have u41 := u8T 41 e41 (41 : Int)
      by_cases hd : d = 1
      · have HC := hid' (hE1.trans ((if_pos e41).trans (if_pos hd)))
        subst hd
        clear hE1 e41 e40
        go_wp2_with fail
        go_ret
        unfold TkEnd
        rw [HC.out]
        exact ⟨v, b, rfl, HA.out, fun _ => rfl⟩
      have hd' : ((d : Int) - 1 == 0) = false := by simp; omega
      have hE2 := hE1.trans ((if_pos e41).trans (if_neg hd))
      have hd2 : 2 ≤ d := by omega
      clear hE1 hd
      by_cases hf : 4000 ≤ b.length
      · have HC := hid' (hE2.trans (if_pos hf))
        clear hE2 e40 e41
        go_wp2_with fail
        refine (qadd_full (HA.out.pure (Chg.alloc (Chg.refl NoB _) _)) _ [s[j]] _ hbl (by simp) (by simp; omega)).mono ?_
        rintro r w1 ⟨rfl, A2⟩
        have HB := hid' A2
        clear A2
        go_wp2_with fail
        go_ret
        unfold TkEnd
        rw [HC.out]
        exact ⟨v, b, rfl, HB.out, fun h => absurd h (by decide)⟩
      · have HC := hid' (hE2.trans (if_neg hf))
        clear hE2 e40 e41
        go_wp2_with fail
        refine (qadd_any (HA.out.pure (Chg.alloc (Chg.refl NoB _) _)) _ [s[j]] _ (at8_one _ _) (by simp) (by simp; omega)).mono ?_
        rintro r w1 ⟨rfl, v', A2⟩
        have HB := hid' A2
        clear A2
        go_wp2_with fail
        go_roundw
        case rel => exact ⟨j + 1, d - 1, _, v', by omega, by omega, by omega, by omega, by first | rfl | go_num, by first | rfl | go_num, by simp; omega, HB.out, HC.out⟩
        case measure => simp [intOf]; omega
    have u41 := u8F 41 e41 (41 : Int)
    have hE2 := hE1.trans (if_neg e41)
    clear hE1
    by_cases e13 : s[j] = 13
    · have u13 := u8T 13 e13 (13 : Int)
      have hE3 := hE2.trans (if_pos e13)
      clear hE2
      by_cases hk : j + 1 < s.size
      · have hk' : (j : Int) + 1 < s.size := by omega
        have hh : (s.toList.drop (j + 1)).head? = some s[j + 1] := by rw [drop_at s (j + 1) hk]; rfl
        by_cases en : s[j + 1] = 10
        · have v10 := u8T 10 en (10 : Int)
          have hn : (s.toList.drop (j + 1)).head? = some 10 := by rw [hh, en]
          by_cases hf : 4000 ≤ b.length
          · have HC := hid' (hE3.trans (if_pos hf))
            clear hE3 e40 e41 e13 hh en hn
            go_wp2_with fail
            refine (qadd_full (HA.out.pure (Chg.alloc (Chg.refl NoB _) _)) _ [10] _ hbl (by simp) (by simp; omega)).mono ?_
            rintro r w1 ⟨rfl, A2⟩
            have HB := hid' A2
            clear A2
            go_wp2_with fail
            go_ret
            unfold TkEnd
            rw [HC.out]
            exact ⟨v, b, rfl, HB.out, fun h => absurd h (by decide)⟩
          · have HC := hid' (hE3.trans ((if_neg hf).trans (if_pos hn)))
            clear hE3 e40 e41 e13 hh en hn
            go_wp2_with fail
            refine (qadd_any (HA.out.pure (Chg.alloc (Chg.refl NoB _) _)) _ [10] _ (at8_int _ 10 (by decide) (by decide)) (by simp) (by simp; omega)).mono ?_
            rintro r w1 ⟨rfl, v', A2⟩
            have HB := hid' A2
            clear A2
            go_wp2_with fail
            go_roundw
            case rel => exact ⟨j + 2, d, _, v', by omega, by omega, by omega, by omega, by first | rfl | go_num, by first | rfl | go_num, by simp; omega, HB.out, HC.out⟩
            case measure => simp [intOf]; omega
        · have v10 := u8F 10 en (10 : Int)
          have hn : ¬ (s.toList.drop (j + 1)).head? = some 10 := by rw [hh]; simpa using en
          by_cases hf : 4000 ≤ b.length
          · have HC := hid' (hE3.trans (if_pos hf))
            clear hE3 e40 e41 e13 hh en hn
            go_wp2_with fail
            refine (qadd_full (HA.out.pure (Chg.alloc (Chg.refl NoB _) _)) _ [10] _ hbl (by simp) (by simp; omega)).mono ?_
            rintro r w1 ⟨rfl, A2⟩
            have HB := hid' A2
            clear A2
            go_wp2_with fail
            go_ret
            unfold TkEnd
            rw [HC.out]
            exact ⟨v, b, rfl, HB.out, fun h => absurd h (by decide)⟩
          · have HC := hid' (hE3.trans ((if_neg hf).trans (if_neg hn)))
            clear hE3 e40 e41 e13 hh en hn
            go_wp2_with fail
            refine (qadd_any (HA.out.pure (Chg.alloc (Chg.refl NoB _) _)) _ [10] _ (at8_int _ 10 (by decide) (by decide)) (by simp) (by simp; omega)).mono ?_
            rintro r w1 ⟨rfl, v', A2⟩
            have HB := hid' A2
            clear A2
            go_wp2_with fail
            go_roundw
            case rel => exact ⟨j + 1, d, _, v', by omega, by omega, by omega, by omega, by first | rfl | go_num, by first | rfl | go_num, by simp; omega, HB.out, HC.out⟩
            case measure => simp [intOf]; omega
      · have hk' : (s.size : Int) ≤ (j : Int) + 1 := by omega
        have hn : ¬ (s.toList.drop (j + 1)).head? = some 10 := by rw [drop_end s (j + 1) (by omega)]; simp
        by_cases hf : 4000 ≤ b.length
        · have HC := hid' (hE3.trans (if_pos hf))
          clear hE3 e40 e41 e13 hn
          go_wp2_with fail
          refine (qadd_full (HA.out.pure (Chg.alloc (Chg.refl NoB _) _)) _ [10] _ hbl (by simp) (by simp; omega)).mono ?_
          rintro r w1 ⟨rfl, A2⟩
          have HB := hid' A2
          clear A2
          go_wp2_with fail
          go_ret
          unfold TkEnd
          rw [HC.out]
          exact ⟨v, b, rfl, HB.out, fun h => absurd h (by decide)⟩
        · have HC := hid' (hE3.trans ((if_neg hf).trans (if_neg hn)))
          clear hE3 e40 e41 e13 hn
          go_wp2_with fail
          refine (qadd_any (HA.out.pure (Chg.alloc (Chg.refl NoB _) _)) _ [10] _ (at8_int _ 10 (by decide) (by decide)) (by simp) (by simp; omega)).mono ?_
          rintro r w1 ⟨rfl, v', A2⟩
          have HB := hid' A2
          clear A2
          go_wp2_with fail
          go_roundw
          case rel => exact ⟨j + 1, d, _, v', by omega, by omega, by omega, by omega, by first | rfl | go_num, by first | rfl | go_num, by simp; omega, HB.out, HC.out⟩
          case measure => simp [intOf]; omega
    have u13 := u8F 13 e13 (13 : Int)
    have hE3 := hE2.trans (if_neg e13)
    clear hE2
    by_cases e92 : s[j] = 92
    · have u92 := u8T 92 e92 (92 : Int)
      have hE4 := hE3.trans (if_pos e92)
      clear hE3
      by_cases hk : j + 1 < s.size
      rotate_left
      · have hk' : (j : Int) + 1 = s.size := by omega
        have hk2 : ((j : Int) + 1 == (s.size : Int)) = true := by simpa using hk'
        have hk3 : (j + 1 == s.size) = true := by simp; omega
        have HC := hid' (hE4.trans (if_pos (drop_end s (j + 1) (by omega))))
        clear hE4 e40 e41 e13 e92 hk'
        go_wp2_with fail
        refine (qbad_any HA.out 4).mono ?_
        rintro r w1 ⟨rfl, A2⟩
        have HB := hid' A2
        clear A2
        go_wp2_with fail
        go_ret
        unfold TkEnd
        rw [HC.out]
        exact ⟨v, b, rfl, HB.out, fun h => absurd h (by decide)⟩
      have hk' : (j : Int) + 1 < s.size := by omega
      have hk2 : ((j : Int) + 1 == (s.size : Int)) = false := by simp; omega
      have hk3 : (j + 1 == s.size) = false := by simp; omega
      have hE5 := hE4.trans (if_neg (by rw [drop_at s (j + 1) hk]; simp))
      clear hE4
      obtain ⟨x0, x1, x2⟩ := escF_le (s.toList.drop (j + 1))
      rw [List.length_drop, size_lst] at x2
      have hX := fun w => escape_any s (j + 1) hs hk w
      generalize escF (s.toList.drop (j + 1)) = X at *
      obtain ⟨xc, xn, xb⟩ := X
      simp only at x0 x1 x2 hX hE5
      have HX := hid' hX
      clear hX
      cases xb with
      | false =>
        have HC := hid' (hE5.trans (if_neg (by simp)))
        clear hE5 e40 e41 e13 e92
        go_wp2_with fail
        refine (HX.out _).mono ?_
        rintro r w1 ⟨rfl, X1⟩
        have HB := hid' (HA.out.pure X1)
        clear X1
        go_wp2_with fail
        go_roundw
        case rel => exact ⟨j + 1 + xn, d, b, v, by omega, by omega, by omega, by omega, by first | rfl | go_num, rfl, hbl, HB.out, HC.out⟩
        case measure => simp [intOf]; omega
      | true =>
        by_cases hf : 4000 ≤ b.length
        · have HC := hid' (hE5.trans ((if_pos rfl).trans (if_pos hf)))
          clear hE5 e40 e41 e13 e92
          go_wp2_with fail
          refine (HX.out _).mono ?_
          rintro r w1 ⟨rfl, X1⟩
          have HA := hid' (HA.out.pure X1)
          clear X1
          go_wp2_with fail
          refine (qadd_full (HA.out.pure (Chg.alloc (Chg.refl NoB _) _)) _ [u8of xc] _ hbl (by simp) (by simp; omega)).mono ?_
          rintro r w1 ⟨rfl, A2⟩
          have HB := hid' A2
          clear A2
          go_wp2_with fail
          go_ret
          unfold TkEnd
          rw [HC.out]
          exact ⟨v, b, rfl, HB.out, fun h => absurd h (by decide)⟩
        · have HC := hid' (hE5.trans ((if_pos rfl).trans (if_neg hf)))
          clear hE5 e40 e41 e13 e92
          go_wp2_with fail
          refine (HX.out _).mono ?_
          rintro r w1 ⟨rfl, X1⟩
          have HA := hid' (HA.out.pure X1)
          clear X1
          go_wp2_with fail
          refine (qadd_any (HA.out.pure (Chg.alloc (Chg.refl NoB _) _)) _ [u8of xc] _ (at8_int _ _ x0 x1) (by simp) (by simp; omega)).mono ?_
          rintro r w1 ⟨rfl, v', A2⟩
          have HB := hid' A2
          clear A2
          go_wp2_with fail
          go_roundw
          case rel => exact ⟨j + 1 + xn, d, _, v', by omega, by omega, by omega, by omega, by first | rfl | go_num, by first | rfl | go_num, by simp; omega, HB.out, HC.out⟩
          case measure => simp [intOf]; omega
    have u92 := u8F 92 e92 (92 : Int)
    have hE4 := hE3.trans (if_neg e92)
    clear hE3
    by_cases hf : 4000 ≤ b.length
    · have HC := hid' (hE4.trans (if_pos hf))
      clear hE4 e40 e41 e13 e92
      go_wp2_with fail
      refine (qadd_full (HA.out.pure (Chg.alloc (Chg.refl NoB _) _)) _ [s[j]] _ hbl (by simp) (by simp; omega)).mono ?_
      rintro r w1 ⟨rfl, A2⟩
      have HB := hid' A2
      clear A2
      go_wp2_with fail
      go_ret
      unfold TkEnd
      rw [HC.out]
      exact ⟨v, b, rfl, HB.out, fun h => absurd h (by decide)⟩
    · have HC := hid' (hE4.trans (if_neg hf))
      clear hE4 e40 e41 e13 e92
      go_wp2_with fail
      refine (qadd_any (HA.out.pure (Chg.alloc (Chg.refl NoB _) _)) _ [s[j]] _ (at8_one _ _) (by simp) (by simp; omega)).mono ?_
      rintro r w1 ⟨rfl, v', A2⟩
      have HB := hid' A2
      clear A2
      go_wp2_with fail
      go_roundw
      case rel => exact ⟨j + 1, d, _, v', by omega, by omega, by omega, by omega, by first | rfl | go_num, by first | rfl | go_num, by simp; omega, HB.out, HC.out⟩
      case measure => simp [intOf]; omega
end Go.Proofs.Ytgahapnjlngebaa
