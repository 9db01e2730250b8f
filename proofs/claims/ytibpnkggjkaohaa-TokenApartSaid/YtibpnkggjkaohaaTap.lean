/- Two texts with a line between them: their words. -/
import Derived.Test.YtibpnkggjkaohaaTky
namespace Go.Proofs.Ytibpnkggjkaohaa
open Go.RowKit

theorem skip_app (b : Bool) (l x : List UInt8) (h : skipL b l < l.length) : skipL b (l ++ x) = skipL b l := by
  induction l generalizing b with
  | nil => simp at h
  | cons c l ih =>
    cases b with
    | false =>
      simp only [List.cons_append, skipL, List.length_cons] at h ⊢
      split
      · rename_i h1; rw [if_pos h1] at h; rw [ih false (by omega)]
      · rename_i h1
        rw [if_neg h1] at h
        split
        · rename_i h2; rw [if_pos h2] at h; rw [ih true (by omega)]
        · rfl
    | true =>
      simp only [List.cons_append, skipL, List.length_cons] at h ⊢
      split
      · rename_i h1; rw [if_pos h1] at h; rw [ih false (by omega)]
      · rename_i h1; rw [if_neg h1] at h; rw [ih true (by omega)]
theorem skip_all (b : Bool) (l r : List UInt8) (h : skipL b l = l.length) : skipL b (l ++ 10 :: r) = l.length + 1 + skipL false r := by
  induction l generalizing b with
  | nil => cases b <;> simp [skipL, show kindI 10 = 1 by decide]
  | cons c l ih =>
    cases b with
    | false =>
      simp only [List.cons_append, skipL, List.length_cons] at h ⊢
      split
      · rename_i h1; rw [if_pos h1] at h; rw [ih false (by omega)]; omega
      · rename_i h1
        rw [if_neg h1] at h
        split
        · rename_i h2; rw [if_pos h2] at h; rw [ih true (by omega)]; omega
        · rename_i h2; rw [if_neg h2] at h; omega
    | true =>
      simp only [List.cons_append, skipL, List.length_cons] at h ⊢
      split
      · rename_i h1; rw [if_pos h1] at h; rw [ih false (by omega)]; omega
      · rename_i h1; rw [if_neg h1] at h; rw [ih true (by omega)]; omega
theorem reg_app (l r : List UInt8) : regL (l ++ 10 :: r) = regL l := by
  unfold regL
  rw [List.takeWhile_append]
  split
  · rename_i h
    rw [List.takeWhile_cons, if_neg (by decide), List.append_nil, h]
  · rfl
theorem take_app (n : Nat) (l x : List UInt8) (h : n ≤ l.length) : (l ++ x).take n = l.take n := by rw [List.take_append_of_le_length h]
theorem name_app (k : Int) (l r : List UInt8) : nameF k (l ++ 10 :: r) = nameF k l := by
  unfold nameF
  rw [reg_app, take_app _ _ _ (regL_le l)]
theorem pre_app (k : Nat) (c : UInt8) (l r : List UInt8) (h7 : 7 ≤ k) (h13 : k < 13) : pre k (c :: l ++ 10 :: r) = pre k (c :: l) := by
  have : k = 7 ∨ k = 8 ∨ k = 9 ∨ k = 10 ∨ k = 11 ∨ k = 12 := by omega
  cases l with
  | nil => rcases this with rfl | rfl | rfl | rfl | rfl | rfl <;> simp [pre, signL, List.isPrefixOf]
  | cons d l => rcases this with rfl | rfl | rfl | rfl | rfl | rfl <;> simp [pre, signL, List.isPrefixOf]
theorem sgF_app : ∀ (f k : Nat) (c : UInt8) (l r : List UInt8), 7 ≤ k → k + f ≤ 13 → sgF f k (c :: l ++ 10 :: r) = sgF f k (c :: l)
  | 0, _, _, _, _, _, _ => rfl
  | f + 1, k, c, l, r, h1, h2 => by rw [sgF, sgF, pre_app k c l r h1 (by omega), sgF_app f (k + 1) c l r (by omega) (by omega)]
theorem oct_app (l x : List UInt8) (h : (octL l).length < l.length) : octL (l ++ x) = octL l := by
  unfold octL at h ⊢
  rw [List.take_append]
  by_cases c : 3 ≤ l.length
  · rw [show 3 - l.length = 0 by omega, List.take_zero, List.append_nil]
  · rw [List.take_of_length_le (by omega)] at h ⊢
    rw [List.takeWhile_append, if_neg]
    intro e
    rw [e] at h
    omega
theorem esc_app (l x : List UInt8) (h : (escF l).2.1 < l.length) : escF (l ++ x) = escF l := by
  cases l with
  | nil => simp at h
  | cons c t =>
    have ho := oct_app (c :: t) x
    rw [List.cons_append] at ho ⊢
    rw [escF_cons, escF_cons] at *
    by_cases h1 : c = 98; · rw [if_pos h1, if_pos h1]
    rw [if_neg h1, if_neg h1] at *
    by_cases h2 : c = 116; · rw [if_pos h2, if_pos h2]
    rw [if_neg h2, if_neg h2] at *
    by_cases h3 : c = 110; · rw [if_pos h3, if_pos h3]
    rw [if_neg h3, if_neg h3] at *
    by_cases h4 : c = 102; · rw [if_pos h4, if_pos h4]
    rw [if_neg h4, if_neg h4] at *
    by_cases h5 : c = 114; · rw [if_pos h5, if_pos h5]
    rw [if_neg h5, if_neg h5] at *
    by_cases h6 : c = 13 ∧ t.head? = some 10
    · have : c = 13 ∧ (t ++ x).head? = some 10 := ⟨h6.1, by cases t with | nil => simp at h6 | cons => simpa using h6.2⟩
      rw [if_pos h6, if_pos this]
    · rw [if_neg h6] at *
      by_cases h7 : c = 10 ∨ c = 13
      · rw [if_pos h7] at h ⊢
        have : ¬ (c = 13 ∧ (t ++ x).head? = some 10) := by
          cases t with
          | nil => simp at h
          | cons => simpa using h6
        rw [if_neg this, if_pos h7]
      · have : ¬ (c = 13 ∧ (t ++ x).head? = some 10) := fun e => h7 (.inr e.1)
        rw [if_neg this, if_neg h7]
        rw [if_neg h7] at h ⊢
        by_cases h8 : (c.toNat : Int) < 48 ∨ 55 < (c.toNat : Int)
        · rw [if_pos h8, if_pos h8]
        · rw [if_neg h8] at h ⊢
          rw [if_neg h8, ho h]
theorem paren_app : ∀ (n : Nat) (l : List UInt8), l.length ≤ n → ∀ (x : List UInt8) (i deep : Nat) (b : List UInt8), (parenW l i deep b).1 = 0 → parenW (l ++ x) i deep b = parenW l i deep b
  | n, [], _, x, i, deep, b => by rw [parenW]; intro h; exact absurd h (by decide)
  | 0, c :: t, h, _, _, _, _ => by simp at h
  | n + 1, c :: t, h, x, i, deep, b => by
    have hl : t.length ≤ n := by simpa using h
    have ih := fun l (hl : l.length ≤ n) => paren_app n l hl x
    rw [List.cons_append, parenW, parenW]
    by_cases h1 : c = 40
    · rw [if_pos h1, if_pos h1]
      by_cases hf : 4000 ≤ b.length
      · rw [if_pos hf, if_pos hf]; exact fun _ => rfl
      · rw [if_neg hf, if_neg hf]; exact ih t hl _ _ _
    rw [if_neg h1, if_neg h1]
    by_cases h2 : c = 41
    · rw [if_pos h2, if_pos h2]
      by_cases hd : deep = 1
      · rw [if_pos hd, if_pos hd]; exact fun _ => rfl
      rw [if_neg hd, if_neg hd]
      by_cases hf : 4000 ≤ b.length
      · rw [if_pos hf, if_pos hf]; exact fun _ => rfl
      · rw [if_neg hf, if_neg hf]; exact ih t hl _ _ _
    rw [if_neg h2, if_neg h2]
    by_cases h3 : c = 13
    · rw [if_pos h3, if_pos h3]
      by_cases hf : 4000 ≤ b.length
      · rw [if_pos hf, if_pos hf]; exact fun _ => rfl
      rw [if_neg hf, if_neg hf]
      cases t with
      | nil =>
        rw [if_neg (by simp)]
        intro hh
        rw [parenW] at hh
        exact absurd hh (by decide)
      | cons d t =>
        by_cases h4 : d = 10
        · rw [if_pos (by simp [h4]), if_pos (by simp [h4])]
          exact ih t (by simp at hl; omega) _ _ _
        · rw [if_neg (by simp [h4]), if_neg (by simp [h4])]
          exact ih (d :: t) hl _ _ _
    rw [if_neg h3, if_neg h3]
    by_cases h5 : c = 92
    · rw [if_pos h5, if_pos h5]
      by_cases ht : t = []
      · rw [if_pos ht]; intro hh; exact absurd hh (by decide)
      rw [if_neg ht, if_neg (show ¬ (t ++ x = []) by simp [ht])]
      have hel := (escF_le t).2.2
      by_cases he : (escF t).2.1 < t.length
      · rw [esc_app t x he, List.drop_append_of_le_length (Nat.le_of_lt he)]
        by_cases hb : (escF t).2.2 = true
        · rw [if_pos hb, if_pos hb]
          by_cases hf : 4000 ≤ b.length
          · rw [if_pos hf, if_pos hf]; exact fun _ => rfl
          · rw [if_neg hf, if_neg hf]; exact ih _ (by rw [List.length_drop]; omega) _ _ _
        · rw [if_neg hb, if_neg hb]; exact ih _ (by rw [List.length_drop]; omega) _ _ _
      · have hd : t.drop (escF t).2.1 = [] := List.drop_eq_nil_of_le (by omega)
        rw [hd]
        intro hh
        exfalso
        split at hh
        · split at hh
          · exact absurd hh (by decide)
          · rw [parenW] at hh; exact absurd hh (by decide)
        · rw [parenW] at hh; exact absurd hh (by decide)
    rw [if_neg h5, if_neg h5]
    by_cases hf : 4000 ≤ b.length
    · rw [if_pos hf, if_pos hf]; exact fun _ => rfl
    · rw [if_neg hf, if_neg hf]; exact ih t hl _ _ _
theorem hex_app (l x : List UInt8) : ∀ (i : Nat) (half : Int) (b : List UInt8), (hexW l i half b).1 = 0 → hexW (l ++ x) i half b = hexW l i half b := by
  induction l with
  | nil => intro i half b h; rw [hexW] at h; exact absurd h (by decide)
  | cons c t ih =>
    intro i half b
    rw [List.cons_append, hexW, hexW]
    repeat' split
    all_goals first
      | exact fun _ => rfl
      | exact ih _ _ _
theorem eighty_app (l x : List UInt8) : ∀ (i : Nat) (g b : List UInt8), (eightyW l i g b).1 = 0 → eightyW (l ++ x) i g b = eightyW l i g b := by
  induction l with
  | nil => intro i g b h; rw [eightyW] at h; exact absurd h (by decide)
  | cons c t ih =>
    intro i g b
    rw [List.cons_append, eightyW, eightyW]
    by_cases h1 : kindI c.toNat = 1
    · rw [if_pos h1, if_pos h1]; exact ih _ _ _
    rw [if_neg h1, if_neg h1]
    by_cases h2 : c = 126
    · rw [if_pos h2, if_pos h2]
      cases t with
      | nil => intro h; exact absurd h (by simp)
      | cons d t =>
        intro _
        rw [List.cons_append, if_neg (show ¬ (d :: (t ++ x) = []) by simp), if_neg (show ¬ (d :: t = []) by simp)]
        rfl
    rw [if_neg h2, if_neg h2]
    repeat' split
    all_goals first
      | exact fun _ => rfl
      | exact ih _ _ _
theorem takeF_app (l x : List UInt8) (h : (takeF l).1 = 0) : takeF (l ++ x) = takeF l := by
  have h0 : (takeW l).1 = 0 := by
    unfold takeF at h
    split at h
    · assumption
    · rename_i c; exact absurd h c
  have hW : takeW (l ++ x) = takeW l := by
    unfold takeW at h0 ⊢
    match l, h0 with
    | [], h0 => exact absurd h0 (by simp)
    | [c], h0 =>
      exfalso
      simp only [List.head?_cons, Option.some.injEq, List.drop_succ_cons, List.drop_nil, List.head?_nil, reduceCtorEq, and_false, if_false, List.drop_zero] at h0
      split at h0
      · rw [parenW] at h0; exact absurd h0 (by decide)
      · split at h0
        · rw [hexW] at h0; exact absurd h0 (by decide)
        · exact absurd h0 (by decide)
    | c :: d :: t, h0 =>
      simp only [List.cons_append, List.head?_cons, List.drop_succ_cons, List.drop_zero] at h0 ⊢
      split
      · rename_i h1; rw [if_pos h1] at h0; exact paren_app _ (d :: t) (Nat.le_refl _) x _ _ _ h0
      · rename_i h1
        rw [if_neg h1] at h0
        split
        · rename_i h2; rw [if_pos h2] at h0; exact eighty_app t x _ _ _ h0
        · rename_i h2
          rw [if_neg h2] at h0
          split
          · rename_i h3; rw [if_pos h3] at h0; exact hex_app (d :: t) x _ _ _ h0
          · rfl
  unfold takeF
  rw [hW]
theorem word_app (c : UInt8) (l r : List UInt8) (h : (wordF (c :: l)).1 = 0) : wordF (c :: l ++ 10 :: r) = wordF (c :: l) := by
  have e1 : (c :: l ++ 10 :: r : List UInt8).head? = (c :: l).head? := rfl
  unfold wordF at h ⊢
  rw [sgF_app 6 7 c l r (by omega) (by omega), e1]
  by_cases c1 : sgF 6 7 (c :: l) ≠ 0
  · rw [if_pos c1, if_pos c1]
  rw [if_neg c1] at h ⊢
  rw [if_neg c1]
  by_cases c2 : (c :: l).head? = some 40 ∨ (c :: l).head? = some 60
  · rw [if_pos c2] at h ⊢
    rw [if_pos c2, takeF_app _ _ h]
  rw [if_neg c2] at h ⊢
  rw [if_neg c2]
  by_cases c3 : (c :: l).head? = some 62 ∨ (c :: l).head? = some 41
  · rw [if_pos c3, if_pos c3]
  rw [if_neg c3] at h ⊢
  rw [if_neg c3]
  by_cases c4 : (c :: l).head? = some 47
  · rw [if_pos c4, if_pos c4]
    simp only [List.cons_append, List.drop_succ_cons, List.drop_zero]
    cases l with
    | nil =>
      rw [if_neg (by simp), if_neg (by simp)]
      have := name_app 4 [] r
      rw [this]
    | cons d l =>
      simp only [List.cons_append, List.head?_cons]
      by_cases hd : d = 47
      · refine (if_pos (congrArg some hd)).trans (Eq.trans ?_ (if_pos (congrArg some hd)).symm)
        rw [List.drop_succ_cons, List.drop_zero, List.drop_succ_cons, List.drop_zero, name_app]
      · refine (if_neg (fun e => hd (Option.some.inj e))).trans (Eq.trans ?_ (if_neg (fun e => hd (Option.some.inj e))).symm)
        have := name_app 4 (d :: l) r
        rw [List.cons_append] at this
        rw [this]
  rw [if_neg c4, if_neg c4, reg_app, take_app _ _ _ (regL_le _), name_app]
/-- A word that ends a text is read the same with a line behind it. -/
theorem next_app (l r : List UInt8) (h : (nextF l).1 = 0) (h2 : ¬ l.drop (skipL false l) = []) : nextF (l ++ 10 :: r) = nextF l ∧ ∀ a, tokAt a (l ++ 10 :: r) = tokAt a l := by
  have hs : skipL false l < l.length := by
    apply Classical.byContradiction
    intro hn
    exact h2 (List.drop_eq_nil_of_le (by omega))
  have hk := skip_app false l (10 :: r) hs
  have hd : (l ++ 10 :: r).drop (skipL false l) = l.drop (skipL false l) ++ 10 :: r := List.drop_append_of_le_length (Nat.le_of_lt hs)
  have h3 : ¬ (l ++ 10 :: r).drop (skipL false l) = [] := by rw [hd]; simp
  have hN : nextF (l ++ 10 :: r) = nextF l := by
    cases hc : l.drop (skipL false l) with
    | nil => exact absurd hc h2
    | cons c t =>
      have hw : (wordF (c :: t)).1 = 0 := by
        unfold nextF at h
        rw [if_neg h2, hc] at h
        split at h
        · assumption
        · rename_i e; exact absurd h e
      unfold nextF
      rw [hk, hd, hc, if_neg (show ¬ (c :: t ++ 10 :: r = []) by simp), if_neg (show ¬ (c :: t = []) by simp), word_app c t r hw]
  refine ⟨hN, fun a => ?_⟩
  unfold tokAt
  rw [hk, hN]
  have e1 : ¬ ((l ++ 10 :: r).drop (skipL false l) = [] ∨ (nextF l).1 ≠ 0) := by rintro (e | e); exact h3 e; exact e h
  have e2 : ¬ (l.drop (skipL false l) = [] ∨ (nextF l).1 ≠ 0) := by rintro (e | e); exact h2 e; exact e h
  rw [if_neg e1, if_neg e2]
/-- Where a text ends, the next word is the one behind the line. -/
theorem next_end (l r : List UInt8) (h : l.drop (skipL false l) = []) : nextF (l ++ 10 :: r) = ((nextF r).1, (nextF r).2.1, l.length + 1 + (nextF r).2.2.1, (nextF r).2.2.2) ∧ ∀ a, tokAt a (l ++ 10 :: r) = tokAt (a + l.length + 1) r := by
  have hs : skipL false l = l.length := by
    have := skipL_len false l
    have h1 := congrArg List.length h
    rw [List.length_drop, List.length_nil] at h1
    omega
  have hk := skip_all false l r hs
  have hd : (l ++ 10 :: r).drop (l.length + 1 + skipL false r) = r.drop (skipL false r) := by
    rw [show l.length + 1 + skipL false r = l.length + (1 + skipL false r) by omega, ← List.drop_drop, List.drop_left, Nat.add_comm 1, List.drop_succ_cons]
  have hN : nextF (l ++ 10 :: r) = ((nextF r).1, (nextF r).2.1, l.length + 1 + (nextF r).2.2.1, (nextF r).2.2.2) := by
    unfold nextF
    rw [hk, hd]
    by_cases c1 : r.drop (skipL false r) = []
    · rw [if_pos c1, if_pos c1]
    · rw [if_neg c1, if_neg c1]
      by_cases c2 : (wordF (r.drop (skipL false r))).1 = 0
      · rw [if_pos c2, if_pos c2]
      · rw [if_neg c2, if_neg c2]
  refine ⟨hN, fun a => ?_⟩
  unfold tokAt
  rw [hk, hd, hN]
  split
  · rfl
  · simp only
    congr 1
    omega
end Go.Proofs.Ytibpnkggjkaohaa
