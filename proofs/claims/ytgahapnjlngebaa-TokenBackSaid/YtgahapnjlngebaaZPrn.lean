/- Plain: a string that is printed within ( ) is read back. -/
import Derived.Test.YtgahapnjlngebaaZTal
import Derived.Test.YtgahapnjlngebaaZPlnum
namespace Go.Proofs.Ytgahapnjlngebaa
open Go.RowKit

/-- How a byte stands within ( ). -/
def oneQ (c : UInt8) : List UInt8 :=
  if c = 40 ∨ c = 41 ∨ c = 92 then [92, c]
  else if c = 8 then [92, 98]
  else if c = 9 then [92, 116]
  else if c = 10 then [92, 110]
  else if c = 12 then [92, 102]
  else if c = 13 then [92, 114]
  else if c < 32 ∨ 126 < c then [92, 48 + c / 64, 48 + c / 8 % 8, 48 + c % 8]
  else [c]
def quoteQ (l : List UInt8) : List UInt8 := l.flatMap oneQ
def parenL (l : List UInt8) : List UInt8 := 40 :: (quoteQ l ++ [41])
theorem parenW_step (c : UInt8) (t : List UInt8) (i deep : Nat) (b : List UInt8) : parenW (c :: t) i deep b =
    if c = 40 then if 4000 ≤ b.length then (5, [], 0) else parenW t (i + 1) (deep + 1) (b ++ [c])
    else if c = 41 then if deep = 1 then (0, b, i + 1) else if 4000 ≤ b.length then (5, [], 0) else parenW t (i + 1) (deep - 1) (b ++ [c])
    else if c = 13 then if 4000 ≤ b.length then (5, [], 0) else if t.head? = some 10 then parenW (t.drop 1) (i + 2) deep (b ++ [10]) else parenW t (i + 1) deep (b ++ [10])
    else if c = 92 then
      if t = [] then (4, [], 0)
      else if (escF t).2.2 = true then if 4000 ≤ b.length then (5, [], 0) else parenW (t.drop (escF t).2.1) (i + 1 + (escF t).2.1) deep (b ++ [u8of (escF t).1])
      else parenW (t.drop (escF t).2.1) (i + 1 + (escF t).2.1) deep b
    else if 4000 ≤ b.length then (5, [], 0) else parenW t (i + 1) deep (b ++ [c]) := by
  rw [parenW]
/-- An escape that tells c in k bytes. -/
theorem esc_step (t T : List UInt8) (c : UInt8) (i : Nat) (b : List UInt8) (hb : b.length < 4000) (he : escF (t ++ T) = ((c.toNat : Int), t.length, true)) (ht : t ≠ []) : parenW (92 :: (t ++ T)) i 1 b = parenW T (i + 1 + t.length) 1 (b ++ [c]) := by
  rw [parenW_step, if_neg (by decide), if_neg (by decide), if_neg (by decide), if_pos rfl, if_neg (by simp [ht]), he]
  simp only [if_true]
  rw [if_neg (by omega), List.drop_left]
  simp [u8of]
theorem oct3 (T : List UInt8) : ∀ c : UInt8, escF ([48 + c / 64, 48 + c / 8 % 8, 48 + c % 8] ++ T) = ((c.toNat : Int), 3, true) := by
  intro c
  have key : ∀ n : Fin 256, (fun c : UInt8 => 48 + c / 64 ≠ 98 ∧ 48 + c / 64 ≠ 116 ∧ 48 + c / 64 ≠ 110 ∧ 48 + c / 64 ≠ 102 ∧ 48 + c / 64 ≠ 114 ∧ 48 + c / 64 ≠ 13 ∧ 48 + c / 64 ≠ 10 ∧ isOct (48 + c / 64) = true ∧ isOct (48 + c / 8 % 8) = true ∧ isOct (48 + c % 8) = true ∧ octV 0 [48 + c / 64, 48 + c / 8 % 8, 48 + c % 8] % 256 = (c.toNat : Int)) (UInt8.ofNat n.val) := by decide +kernel
  have kc := key ⟨c.toNat, c.toNat_lt⟩
  simp only [UInt8.ofNat_toNat] at kc
  obtain ⟨h1, h2, h3, h4, h5, h6, h7, h8, h9, h10, h11⟩ := kc
  have ho : octL ([48 + c / 64, 48 + c / 8 % 8, 48 + c % 8] ++ T) = [48 + c / 64, 48 + c / 8 % 8, 48 + c % 8] := by
    unfold octL
    simp [h8, h9, h10]
  have h12 : ¬ (((48 + c / 64).toNat : Int) < 48 ∨ 55 < ((48 + c / 64).toNat : Int)) := by
    unfold isOct at h8
    simp only [Bool.and_eq_true, decide_eq_true_eq] at h8
    omega
  show escF ((48 + c / 64) :: ([48 + c / 8 % 8, 48 + c % 8] ++ T)) = _
  rw [escF, if_neg h1, if_neg h2, if_neg h3, if_neg h4, if_neg h5, if_neg (fun h => h6 h.1), if_neg (fun h => h.elim h7 h6), if_neg h12]
  rw [show (48 + c / 64) :: ([48 + c / 8 % 8, 48 + c % 8] ++ T) = [48 + c / 64, 48 + c / 8 % 8, 48 + c % 8] ++ T from rfl, ho, h11]
  rfl
theorem one_back (c : UInt8) (T : List UInt8) (i : Nat) (b : List UInt8) (hb : b.length < 4000) : parenW (oneQ c ++ T) i 1 b = parenW T (i + (oneQ c).length) 1 (b ++ [c]) := by
  unfold oneQ
  split
  · rename_i h
    rw [show [92, c] ++ T = 92 :: ([c] ++ T) from rfl, esc_step [c] T c i b hb (by rcases h with rfl | rfl | rfl <;> rfl) (by simp)]
    simp [Nat.add_assoc]
  split
  · rename_i h; subst h
    rw [show [92, 98] ++ T = 92 :: ([98] ++ T) from rfl, esc_step [98] T 8 i b hb rfl (by simp)]
    simp [Nat.add_assoc]
  split
  · rename_i h; subst h
    rw [show [92, 116] ++ T = 92 :: ([116] ++ T) from rfl, esc_step [116] T 9 i b hb rfl (by simp)]
    simp [Nat.add_assoc]
  split
  · rename_i h; subst h
    rw [show [92, 110] ++ T = 92 :: ([110] ++ T) from rfl, esc_step [110] T 10 i b hb rfl (by simp)]
    simp [Nat.add_assoc]
  split
  · rename_i h; subst h
    rw [show [92, 102] ++ T = 92 :: ([102] ++ T) from rfl, esc_step [102] T 12 i b hb rfl (by simp)]
    simp [Nat.add_assoc]
  split
  · rename_i h; subst h
    rw [show [92, 114] ++ T = 92 :: ([114] ++ T) from rfl, esc_step [114] T 13 i b hb rfl (by simp)]
    simp [Nat.add_assoc]
  split
  · rw [show [92, 48 + c / 64, 48 + c / 8 % 8, 48 + c % 8] ++ T = 92 :: ([48 + c / 64, 48 + c / 8 % 8, 48 + c % 8] ++ T) from rfl, esc_step _ T c i b hb (oct3 T c) (by simp)]
    simp [Nat.add_assoc]
  · rename_i h1 _ _ _ _ h6 _
    rw [show [c] ++ T = c :: T from rfl, parenW_step, if_neg (fun h => h1 (.inl h)), if_neg (fun h => h1 (.inr (.inl h))), if_neg h6, if_neg (fun h => h1 (.inr (.inr h))), if_neg (by omega)]
    rfl
theorem quote_back : ∀ (l T : List UInt8) (i : Nat) (b : List UInt8), b.length + l.length ≤ 4000 → parenW (quoteQ l ++ 41 :: T) i 1 b = (0, b ++ l, i + (quoteQ l).length + 1)
  | [], T, i, b, _ => by
    show parenW (41 :: T) i 1 b = _
    rw [parenW_step, if_neg (by decide), if_pos rfl, if_pos rfl]
    simp [quoteQ]
  | c :: l, T, i, b, h => by
    simp only [List.length_cons] at h
    rw [show quoteQ (c :: l) = oneQ c ++ quoteQ l from rfl, List.append_assoc, one_back c _ i b (by omega), quote_back l T _ _ (by simp; omega)]
    simp [Nat.add_assoc]
theorem paren_back (l T : List UInt8) (h : l.length ≤ 4000) : takeF (parenL l ++ T) = (0, l, (parenL l).length) := by
  have : takeW (parenL l ++ T) = (0, l, (parenL l).length) := by
    unfold takeW parenL
    rw [show 40 :: (quoteQ l ++ [41]) ++ T = 40 :: (quoteQ l ++ 41 :: T) by simp, if_pos (show (40 :: (quoteQ l ++ 41 :: T)).head? = some 40 from rfl), show (40 :: (quoteQ l ++ 41 :: T)).drop 1 = quoteQ l ++ 41 :: T from rfl, quote_back l T 1 [] (by simpa using h)]
    simp
    omega
  unfold takeF
  rw [this]
  rfl
end Go.Proofs.Ytgahapnjlngebaa
