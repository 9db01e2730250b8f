/- Prn, Prw -/
import Derived.Test.YtpgkjgceldleaaaZTokc
import Derived.Test.YtpgkjgceldleaaaZPlnum
/- Plain: a string that is printed within ( ) is read back. -/
namespace Go.Proofs.Ytpgkjgceldleaaa
open Go.RowKit

/-- How a byte stands within ( ). -/
def oneQ (c : UInt8) : List UInt8 :=
  if c = 40 ∨ c = 41 ∨ c = 92 then [92, c]
  else if c = 8 then [92, 98]
  else if c = 9 then [92, 116]
  else if c = 10 then [92, 110]
  else if c = 12 then [92, 102]
  else if c = 13 then [92, 114]
  else if c < 32 ∨ 126 < c then [92, 48 + c / 64, 48 + c / 8 % 8, 48 + c % 8]
  else [c]
def quoteQ (l : List UInt8) : List UInt8 := l.flatMap oneQ
def parenL (l : List UInt8) : List UInt8 := 40 :: (quoteQ l ++ [41])
theorem parenW_step (c : UInt8) (t : List UInt8) (i deep : Nat) (b : List UInt8) : parenW (c :: t) i deep b =
    if c = 40 then if 4000 ≤ b.length then (5, [], 0) else parenW t (i + 1) (deep + 1) (b ++ [c])
    else if c = 41 then if deep = 1 then (0, b, i + 1) else if 4000 ≤ b.length then (5, [], 0) else parenW t (i + 1) (deep - 1) (b ++ [c])
    else if c = 13 then if 4000 ≤ b.length then (5, [], 0) else if t.head? = some 10 then parenW (t.drop 1) (i + 2) deep (b ++ [10]) else parenW t (i + 1) deep (b ++ [10])
    else if c = 92 then
      if t = [] then (4, [], 0)
      else if (escF t).2.2 = true then if 4000 ≤ b.length then (5, [], 0) else parenW (t.drop (escF t).2.1) (i + 1 + (escF t).2.1) deep (b ++ [u8of (escF t).1])
      else parenW (t.drop (escF t).2.1) (i + 1 + (escF t).2.1) deep b
    else if 4000 ≤ b.length then (5, [], 0) else parenW t (i + 1) deep (b ++ [c]) := by
  rw [parenW]
/-- An escape that tells c in k bytes. -/
theorem esc_step (t T : List UInt8) (c : UInt8) (i : Nat) (b : List UInt8) (hb : b.length < 4000) (he : escF (t ++ T) = ((c.toNat : Int), t.length, true)) (ht : t ≠ []) : parenW (92 :: (t ++ T)) i 1 b = parenW T (i + 1 + t.length) 1 (b ++ [c]) := by
  rw [parenW_step, if_neg (by decide), if_neg (by decide), if_neg (by decide), if_pos rfl, if_neg (by simp [ht]), he]
  simp only [if_true]
  rw [if_neg (by omega), List.drop_left]
  simp [u8of]
theorem oct3 (T : List UInt8) : ∀ c : UInt8, escF ([48 + c / 64, 48 + c / 8 % 8, 48 + c % 8] ++ T) = ((c.toNat : Int), 3, true) := by
  intro c
  have key : ∀ n : Fin 256, (fun c : UInt8 => 48 + c / 64 ≠ 98 ∧ 48 + c / 64 ≠ 116 ∧ 48 + c / 64 ≠ 110 ∧ 48 + c / 64 ≠ 102 ∧ 48 + c / 64 ≠ 114 ∧ 48 + c / 64 ≠ 13 ∧ 48 + c / 64 ≠ 10 ∧ isOct (48 + c / 64) = true ∧ isOct (48 + c / 8 % 8) = true ∧ isOct (48 + c % 8) = true ∧ octV 0 [48 + c / 64, 48 + c / 8 % 8, 48 + c % 8] % 256 = (c.toNat : Int)) (UInt8.ofNat n.val) := by decide +kernel
  have kc := key ⟨c.toNat, c.toNat_lt⟩
  simp only [UInt8.ofNat_toNat] at kc
  obtain ⟨h1, h2, h3, h4, h5, h6, h7, h8, h9, h10, h11⟩ := kc
  have ho : octL ([48 + c / 64, 48 + c / 8 % 8, 48 + c % 8] ++ T) = [48 + c / 64, 48 + c / 8 % 8, 48 + c % 8] := by
    unfold octL
    simp [h8, h9, h10]
  have h12 : ¬ (((48 + c / 64).toNat : Int) < 48 ∨ 55 < ((48 + c / 64).toNat : Int)) := by
    unfold isOct at h8
    simp only [Bool.and_eq_true, decide_eq_true_eq] at h8
    omega
  show escF ((48 + c / 64) :: ([48 + c / 8 % 8, 48 + c % 8] ++ T)) = _
  rw [escF, if_neg h1, if_neg h2, if_neg h3, if_neg h4, if_neg h5, if_neg (fun h => h6 h.1), if_neg (fun h => h.elim h7 h6), if_neg h12]
  rw [show (48 + c / 64) :: ([48 + c / 8 % 8, 48 + c % 8] ++ T) = [48 + c / 64, 48 + c / 8 % 8, 48 + c % 8] ++ T from rfl, ho, h11]
  rfl
theorem one_back (c : UInt8) (T : List UInt8) (i : Nat) (b : List UInt8) (hb : b.length < 4000) : parenW (oneQ c ++ T) i 1 b = parenW T (i + (oneQ c).length) 1 (b ++ [c]) := by
  unfold oneQ
  split
  · rename_i h
    rw [show [92, c] ++ T = 92 :: ([c] ++ T) from rfl, esc_step [c] T c i b hb (by rcases h with rfl | rfl | rfl <;> rfl) (by simp)]
    simp [Nat.add_assoc]
  split
  · rename_i h; subst h
    rw [show [92, 98] ++ T = 92 :: ([98] ++ T) from rfl, esc_step [98] T 8 i b hb rfl (by simp)]
    simp [Nat.add_assoc]
  split
  · rename_i h; subst h
    rw [show [92, 116] ++ T = 92 :: ([116] ++ T) from rfl, esc_step [116] T 9 i b hb rfl (by simp)]
    simp [Nat.add_assoc]
  split
  · rename_i h; subst h
    rw [show [92, 110] ++ T = 92 :: ([110] ++ T) from rfl, esc_step [110] T 10 i b hb rfl (by simp)]
    simp [Nat.add_assoc]
  split
  · rename_i h; subst h
    rw [show [92, 102] ++ T = 92 :: ([102] ++ T) from rfl, esc_step [102] T 12 i b hb rfl (by simp)]
    simp [Nat.add_assoc]
  split
  · rename_i h; subst h
    rw [show [92, 114] ++ T = 92 :: ([114] ++ T) from rfl, esc_step [114] T 13 i b hb rfl (by simp)]
    simp [Nat.add_assoc]
  split
  · rw [show [92, 48 + c / 64, 48 + c / 8 % 8, 48 + c % 8] ++ T = 92 :: ([48 + c / 64, 48 + c / 8 % 8, 48 + c % 8] ++ T) from rfl, esc_step _ T c i b hb (oct3 T c) (by simp)]
    simp [Nat.add_assoc]
  · rename_i h1 _ _ _ _ h6 _
    rw [show [c] ++ T = c :: T from rfl, parenW_step, if_neg (fun h => h1 (.inl h)), if_neg (fun h => h1 (.inr (.inl h))), if_neg h6, if_neg (fun h => h1 (.inr (.inr h))), if_neg (by omega)]
    rfl
theorem quote_back : ∀ (l T : List UInt8) (i : Nat) (b : List UInt8), b.length + l.length ≤ 4000 → parenW (quoteQ l ++ 41 :: T) i 1 b = (0, b ++ l, i + (quoteQ l).length + 1)
  | [], T, i, b, _ => by
    show parenW (41 :: T) i 1 b = _
    rw [parenW_step, if_neg (by decide), if_pos rfl, if_pos rfl]
    simp [quoteQ]
  | c :: l, T, i, b, h => by
    simp only [List.length_cons] at h
    rw [show quoteQ (c :: l) = oneQ c ++ quoteQ l from rfl, List.append_assoc, one_back c _ i b (by omega), quote_back l T _ _ (by simp; omega)]
    simp [Nat.add_assoc]
theorem paren_back (l T : List UInt8) (h : l.length ≤ 4000) : takeF (parenL l ++ T) = (0, l, (parenL l).length) := by
  have : takeW (parenL l ++ T) = (0, l, (parenL l).length) := by
    unfold takeW parenL
    rw [show 40 :: (quoteQ l ++ [41]) ++ T = 40 :: (quoteQ l ++ 41 :: T) by simp, if_pos (show (40 :: (quoteQ l ++ 41 :: T)).head? = some 40 from rfl), show (40 :: (quoteQ l ++ 41 :: T)).drop 1 = quoteQ l ++ 41 :: T from rfl, quote_back l T 1 [] (by simpa using h)]
    simp
    omega
  unfold takeF
  rw [this]
  rfl
end Go.Proofs.Ytpgkjgceldleaaa
/- Plain: words that are printed are read back. -/
namespace Go.Proofs.Ytpgkjgceldleaaa
open Go.RowKit

/-- How a word is printed. -/
def printL (t : Tok) : List UInt8 :=
  if t.kind = 1 then intL t.n
  else if t.kind = 2 then fixL t.n
  else if t.kind = 3 then t.s.toList
  else if t.kind = 4 then 47 :: t.s.toList
  else if t.kind = 5 then 47 :: 47 :: t.s.toList
  else if t.kind = 6 then parenL t.s.toList
  else signL t.kind
/-- Which words may be. -/
def mayT (t : Tok) : Bool :=
  if t.kind = 1 then decide (t.s.size = 0) && decide (-2147483647 ≤ t.n) && decide (t.n ≤ 2147483647)
  else if t.kind = 2 then decide (t.s.size = 0) && decide (-1073741823 ≤ t.n) && decide (t.n ≤ 1073741823)
  else if t.n ≠ 0 then false
  else if t.kind = 3 then decide ((readF t.s.toList).2.2 = 3) && decide (t.s.size ≠ 0) && decide (t.s.size ≤ 100) && decide (regL t.s.toList = t.s.size)
  else if t.kind = 4 ∨ t.kind = 5 then decide (t.s.size ≤ 100) && decide (regL t.s.toList = t.s.size)
  else if t.kind = 6 then decide (t.s.size ≤ 4000)
  else decide (signL t.kind ≠ []) && decide (t.s.size = 0)
/-- Nothing, or a blank or a remark first. -/
def EndT (T : List UInt8) : Prop := T = [] ∨ ∃ c t, T = c :: t ∧ (isBlank c = true ∨ c = 37)
theorem blank_reg (c : UInt8) (h : isBlank c = true) : isReg c = false := by
  unfold isBlank at h
  unfold isReg
  rw [beq_iff_eq] at h
  rw [h]; rfl
theorem end_reg (c : UInt8) (h : isBlank c = true ∨ c = 37) : isReg c = false := by
  rcases h with h | rfl
  · exact blank_reg c h
  · rfl
theorem reg_ne (c : UInt8) (h : isReg c = true) : c ≠ 40 ∧ c ≠ 41 ∧ c ≠ 60 ∧ c ≠ 62 ∧ c ≠ 91 ∧ c ≠ 93 ∧ c ≠ 123 ∧ c ≠ 125 ∧ c ≠ 47 ∧ c ≠ 37 := by
  refine ⟨?_, ?_, ?_, ?_, ?_, ?_, ?_, ?_, ?_, ?_⟩ <;> rintro rfl <;> exact absurd h (by decide)
theorem reg_app : ∀ (s T : List UInt8), s.all isReg = true → EndT T → (s ++ T).takeWhile isReg = s
  | [], T, _, hT => by
    rcases hT with rfl | ⟨c, t, rfl, hc⟩
    · rfl
    · rw [List.nil_append, List.takeWhile_cons, end_reg c hc]; rfl
  | c :: s, T, hs, hT => by
    rw [List.all_cons, Bool.and_eq_true] at hs
    rw [List.cons_append, List.takeWhile_cons, hs.1, if_pos rfl, reg_app s T hs.2 hT]
theorem reg_len (s T : List UInt8) (hs : s.all isReg = true) (hT : EndT T) : regL (s ++ T) = s.length := by unfold regL; rw [reg_app s T hs hT]
theorem reg_take (s T : List UInt8) (hs : s.all isReg = true) (hT : EndT T) : (s ++ T).take (regL (s ++ T)) = s := by rw [reg_len s T hs hT, List.take_left]
theorem all_reg : ∀ s : List UInt8, regL s = s.length → s.all isReg = true
  | [], _ => rfl
  | c :: s, h => by
    unfold regL at h
    rw [List.takeWhile_cons] at h
    split at h
    · rename_i hc
      simp only [List.length_cons, Nat.add_right_cancel_iff] at h
      rw [List.all_cons, hc, all_reg s h]; rfl
    · simp at h
theorem sg_none (c : UInt8) (t : List UInt8) (h1 : c ≠ 60) (h2 : c ≠ 62) (h3 : c ≠ 91) (h4 : c ≠ 93) (h5 : c ≠ 123) (h6 : c ≠ 125) : sgF 6 7 (c :: t) = 0 := by
  simp [sgF, pre, signL, List.isPrefixOf, h1.symm, h2.symm, h3.symm, h4.symm, h5.symm, h6.symm]
theorem nameF_of (k : Int) (s T : List UInt8) (hs : s.all isReg = true) (hT : EndT T) (h : s.length ≤ 100) : nameF k (s ++ T) = (0, nameT k s, s.length) := by
  unfold nameF
  rw [reg_take s T hs hT, reg_len s T hs hT, if_neg (by omega)]
theorem word_reg (s T : List UInt8) (hs : s.all isReg = true) (hn : s ≠ []) (hT : EndT T) : wordF (s ++ T) =
    if (readF s).2.2 = 0 then (0, ⟨(readF s).1, (readF s).2.1, ⟨#[]⟩, 0⟩, s.length) else if (readF s).2.2 = 2 then (2, Tok.nil, 0) else nameF 3 (s ++ T) := by
  have ht := reg_take s T hs hT
  have hl := reg_len s T hs hT
  cases s with
  | nil => exact absurd rfl hn
  | cons c s =>
    rw [List.all_cons, Bool.and_eq_true] at hs
    obtain ⟨a1, a2, a3, a4, a5, a6, a7, a8, a9, a10⟩ := reg_ne c hs.1
    have hh : ((c :: s) ++ T).head? = some c := rfl
    unfold wordF
    rw [ht, hl, hh]
    rw [show (c :: s) ++ T = c :: (s ++ T) from rfl, sg_none c _ a3 a4 a5 a6 a7 a8]
    simp [a1, a2, a3, a4, a9]
theorem dig_reg (c : UInt8) (h : isDig c = true) : isReg c = true := by
  unfold isDig at h
  simp only [Bool.and_eq_true, decide_eq_true_eq] at h
  unfold isReg kindI
  rw [beq_iff_eq, if_neg (by omega), if_neg (by omega)]
theorem digs_reg (l : List UInt8) (h : l.all isDig = true) : l.all isReg = true := by
  rw [List.all_eq_true] at h ⊢
  exact fun c hc => dig_reg c (h c hc)
theorem int_reg (v : Int) : (intL v).all isReg = true ∧ intL v ≠ [] := by
  unfold intL
  split
  · exact ⟨by rw [List.all_cons, digs_reg _ (decL_dig _)]; rfl, by simp⟩
  · exact ⟨digs_reg _ (decL_dig _), decL_ne _⟩
theorem fix_reg (v : Int) : (fixL v).all isReg = true ∧ fixL v ≠ [] := by
  unfold fixL sizeL
  refine ⟨?_, by simp⟩
  rw [List.all_append, List.all_append, List.all_cons, digs_reg _ (decL_dig _), digs_reg _ (padL_dig _ _ (decL_dig _))]
  split <;> rfl
theorem size0 {s : ByteArray} (h : s.size = 0) : s = ⟨#[]⟩ := by
  apply ByteArray.ext
  exact Array.eq_empty_of_size_eq_zero h
theorem tl_size (s : ByteArray) : s.toList.length = s.size := size_lst s
theorem bytes_tl (s : ByteArray) : bytesB s.toList = s := by unfold bytesB; rw [ByteArray.toList_eq]
/-- What is printed is read as that word, whatever blank follows. -/
theorem word_back (t : Tok) (hm : mayT t = true) (T : List UInt8) (hT : EndT T) : wordF (printL t ++ T) = (0, { t with pos := 0 }, (printL t).length) := by
  obtain ⟨k, n, s, p⟩ := t
  unfold mayT at hm
  unfold printL
  simp only at hm ⊢
  by_cases h1 : k = 1
  · subst h1
    simp only [if_true, Bool.and_eq_true, decide_eq_true_eq] at hm ⊢
    obtain ⟨⟨h2, h3⟩, h4⟩ := hm
    rw [word_reg _ T (int_reg n).1 (int_reg n).2 hT, int_read n h3 h4, size0 h2]
    rfl
  rw [if_neg h1] at hm ⊢
  by_cases h2 : k = 2
  · subst h2
    simp only [if_true, Bool.and_eq_true, decide_eq_true_eq] at hm ⊢
    obtain ⟨⟨h2, h3⟩, h4⟩ := hm
    rw [word_reg _ T (fix_reg n).1 (fix_reg n).2 hT, fix_read n h3 h4, size0 h2]
    rfl
  rw [if_neg h2] at hm ⊢
  by_cases hn : n ≠ 0
  · rw [if_pos hn] at hm; exact absurd hm (by decide)
  rw [if_neg hn] at hm
  obtain rfl : n = 0 := by omega
  by_cases h3 : k = 3
  · subst h3
    simp only [if_true, Bool.and_eq_true, decide_eq_true_eq] at hm ⊢
    obtain ⟨⟨⟨h4, h5⟩, h6⟩, h7⟩ := hm
    have hr := all_reg s.toList (by rw [h7, tl_size])
    have hne : s.toList ≠ [] := fun h => h5 (by rw [← tl_size, h]; rfl)
    rw [word_reg _ T hr hne hT, h4, if_neg (by decide), if_neg (by decide), nameF_of 3 _ T hr hT (by rw [tl_size]; exact h6)]
    unfold nameT
    rw [bytes_tl]
  rw [if_neg h3] at hm ⊢
  have hsl : ∀ (u : List UInt8), sgF 6 7 (47 :: u) = 0 := fun u => sg_none 47 u (by decide) (by decide) (by decide) (by decide) (by decide) (by decide)
  by_cases h4 : k = 4
  · subst h4
    simp only [true_or, if_true, Bool.and_eq_true, decide_eq_true_eq] at hm ⊢
    obtain ⟨h6, h7⟩ := hm
    have hr := all_reg s.toList (by rw [h7, tl_size])
    have hh : ¬ (s.toList ++ T).head? = some 47 := by
      cases hs : s.toList with
      | nil =>
        rcases hT with rfl | ⟨c, u, rfl, hc⟩
        · simp
        · simp; rintro rfl; exact absurd hc (by decide)
      | cons c u =>
        rw [hs, List.all_cons, Bool.and_eq_true] at hr
        simp
        exact (reg_ne c hr.1).2.2.2.2.2.2.2.2.1
    unfold wordF
    rw [List.cons_append, hsl]
    simp only [List.head?_cons, List.drop_succ_cons, List.drop_zero]
    rw [if_neg (by decide), if_neg (by decide), if_neg (by decide), if_pos trivial, if_neg hh, nameF_of 4 _ T hr hT (by rw [tl_size]; exact h6)]
    unfold nameT
    rw [bytes_tl]
    simp; omega
  rw [if_neg h4]
  by_cases h5 : k = 5
  · subst h5
    simp only [or_true, if_true, Bool.and_eq_true, decide_eq_true_eq] at hm ⊢
    obtain ⟨h6, h7⟩ := hm
    have hr := all_reg s.toList (by rw [h7, tl_size])
    unfold wordF
    rw [List.cons_append, List.cons_append, hsl]
    simp only [List.head?_cons, List.drop_succ_cons, List.drop_zero]
    rw [if_neg (by decide), if_neg (by decide), if_neg (by decide), if_pos trivial, if_pos trivial, nameF_of 5 _ T hr hT (by rw [tl_size]; exact h6)]
    unfold nameT
    rw [bytes_tl]
    simp; omega
  rw [if_neg (fun h => h.elim h4 h5)] at hm
  rw [if_neg h5]
  by_cases h6 : k = 6
  · subst h6
    simp only [if_true, decide_eq_true_eq] at hm ⊢
    have hp : sgF 6 7 (parenL s.toList ++ T) = 0 := sg_none 40 _ (by decide) (by decide) (by decide) (by decide) (by decide) (by decide)
    unfold wordF
    rw [hp, paren_back _ T (by rw [tl_size]; exact hm)]
    rw [if_neg (by decide), if_pos (.inl rfl), bytes_tl]
  rw [if_neg h6] at hm ⊢
  simp only [Bool.and_eq_true, decide_eq_true_eq] at hm
  obtain ⟨h7, h8⟩ := hm
  rw [size0 h8]
  have hk : k = 7 ∨ k = 8 ∨ k = 9 ∨ k = 10 ∨ k = 11 ∨ k = 12 := by
    unfold signL at h7
    repeat' split at h7
    all_goals first | omega | exact absurd rfl h7
  rcases hk with rfl | rfl | rfl | rfl | rfl | rfl
  · have : sgF 6 7 (signL 7 ++ T) = 7 := by simp [sgF, pre, signL, List.isPrefixOf]
    unfold wordF; rw [this]; rfl
  · have : sgF 6 7 (signL 8 ++ T) = 8 := by simp [sgF, pre, signL, List.isPrefixOf]
    unfold wordF; rw [this]; rfl
  · have : sgF 6 7 (signL 9 ++ T) = 9 := by simp [sgF, pre, signL, List.isPrefixOf]
    unfold wordF; rw [this]; rfl
  · have : sgF 6 7 (signL 10 ++ T) = 10 := by simp [sgF, pre, signL, List.isPrefixOf]
    unfold wordF; rw [this]; rfl
  · have : sgF 6 7 (signL 11 ++ T) = 11 := by simp [sgF, pre, signL, List.isPrefixOf]
    unfold wordF; rw [this]; rfl
  · have : sgF 6 7 (signL 12 ++ T) = 12 := by simp [sgF, pre, signL, List.isPrefixOf]
    unfold wordF; rw [this]; rfl
/-- Its first byte is no blank, and no remark begins there. -/
theorem print_head (t : Tok) (hm : mayT t = true) : ∃ c u, printL t = c :: u ∧ kindI c.toNat ≠ 1 ∧ c ≠ 37 := by
  have hreg : ∀ l : List UInt8, l.all isReg = true → l ≠ [] → ∃ c u, l = c :: u ∧ kindI c.toNat ≠ 1 ∧ c ≠ 37 := fun l h hn => by
    cases l with
    | nil => exact absurd rfl hn
    | cons c u =>
      rw [List.all_cons, Bool.and_eq_true] at h
      refine ⟨c, u, rfl, ?_, (reg_ne c h.1).2.2.2.2.2.2.2.2.2⟩
      have := h.1
      unfold isReg at this
      rw [beq_iff_eq] at this
      rw [this]; decide
  obtain ⟨k, n, s, p⟩ := t
  unfold mayT at hm
  unfold printL
  simp only at hm ⊢
  by_cases h1 : k = 1
  · rw [if_pos h1]; exact hreg _ (int_reg n).1 (int_reg n).2
  rw [if_neg h1] at hm ⊢
  by_cases h2 : k = 2
  · rw [if_pos h2]; exact hreg _ (fix_reg n).1 (fix_reg n).2
  rw [if_neg h2] at hm ⊢
  by_cases hn : n ≠ 0
  · rw [if_pos hn] at hm; exact absurd hm (by decide)
  rw [if_neg hn] at hm
  by_cases h3 : k = 3
  · rw [if_pos h3] at hm ⊢
    simp only [Bool.and_eq_true, decide_eq_true_eq] at hm
    obtain ⟨⟨⟨h4, h5⟩, h6⟩, h7⟩ := hm
    exact hreg _ (all_reg s.toList (by rw [h7, tl_size])) (fun h => h5 (by rw [← tl_size, h]; rfl))
  rw [if_neg h3] at hm ⊢
  by_cases h4 : k = 4
  · rw [if_pos h4]; exact ⟨47, _, rfl, by decide, by decide⟩
  rw [if_neg h4]
  by_cases h5 : k = 5
  · rw [if_pos h5]; exact ⟨47, _, rfl, by decide, by decide⟩
  rw [if_neg (fun h => h.elim h4 h5)] at hm
  rw [if_neg h5]
  by_cases h6 : k = 6
  · rw [if_pos h6]; exact ⟨40, _, rfl, by decide, by decide⟩
  rw [if_neg h6] at hm ⊢
  simp only [Bool.and_eq_true, decide_eq_true_eq] at hm
  unfold signL at hm ⊢
  repeat' split
  all_goals first | exact ⟨_, _, rfl, by decide, by decide⟩ | (exfalso; simp_all)
/-- The word and what comes behind it. -/
theorem next_back (t : Tok) (hm : mayT t = true) (T : List UInt8) (hT : EndT T) : nextF (printL t ++ T) = (0, { t with pos := 0 }, 0, (printL t).length) := by
  obtain ⟨c, u, h1, h2, h3⟩ := print_head t hm
  have hs : skipL false (printL t ++ T) = 0 := by
    rw [h1, List.cons_append, skipL, if_neg h2, if_neg h3]
  unfold nextF
  rw [hs, List.drop_zero, word_back t hm T hT, if_neg (by rw [h1]; simp)]
  rfl
end Go.Proofs.Ytpgkjgceldleaaa
