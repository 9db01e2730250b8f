/- How many bytes a string's text has. -/
import Derived.Test.YtgahapnjlngebaaZTtk
namespace Go.Proofs.Ytgahapnjlngebaa
open Go.RowKit

theorem parenW_len : ∀ (n : Nat) (l : List UInt8), l.length ≤ n → ∀ (i deep : Nat) (b : List UInt8), (parenW l i deep b).2.2 ≤ i + l.length
  | n, [], _, i, deep, b => by rw [parenW]; simp
  | 0, c :: t, h, _, _, _ => by simp at h
  | n + 1, c :: t, h, i, deep, b => by
    have hl : t.length ≤ n := by simpa using h
    have ih := fun l (hl : l.length ≤ n) => parenW_len n l hl
    have he := (escF_le t).2.2
    have hlc : (c :: t).length = t.length + 1 := rfl
    rw [parenW, hlc]
    repeat' split
    all_goals first
      | exact Nat.zero_le _
      | exact Nat.le_trans (ih t hl _ _ _) (by omega)
      | exact Nat.le_trans (ih (t.drop 1) (by rw [List.length_drop]; omega) _ _ _) (by rw [List.length_drop]; cases t with | nil => simp_all | cons => simp only [List.length_cons]; omega)
      | exact Nat.le_trans (ih (t.drop (escF t).2.1) (by rw [List.length_drop]; omega) _ _ _) (by rw [List.length_drop]; omega)
      | (show i + 1 ≤ i + (t.length + 1); omega)
theorem hexW_len (l : List UInt8) : ∀ (i : Nat) (half : Int) (b : List UInt8), (hexW l i half b).2.2 ≤ i + l.length := by
  induction l with
  | nil => intro i half b; rw [hexW]; simp
  | cons c t ih =>
    intro i half b
    have hlc : (c :: t).length = t.length + 1 := rfl
    rw [hexW, hlc]
    repeat' split
    all_goals first
      | exact Nat.zero_le _
      | exact Nat.le_trans (ih _ _ _) (by omega)
      | (show i + 1 ≤ i + (t.length + 1); omega)
theorem eightyW_len (l : List UInt8) : ∀ (i : Nat) (g b : List UInt8), (eightyW l i g b).2.2 ≤ i + l.length := by
  induction l with
  | nil => intro i g b; rw [eightyW]; simp
  | cons c t ih =>
    intro i g b
    have hlc : (c :: t).length = t.length + 1 := rfl
    rw [eightyW, hlc]
    repeat' split
    all_goals first
      | exact Nat.zero_le _
      | exact Nat.le_trans (ih _ _ _) (by omega)
      | (show i + 2 ≤ i + (t.length + 1); cases t with | nil => simp_all | cons => simp only [List.length_cons]; omega)
theorem takeF_len (l : List UInt8) : (takeF l).2.2 ≤ l.length := by
  unfold takeF
  split
  · unfold takeW
    split
    · rename_i h
      refine Nat.le_trans (parenW_len _ _ (Nat.le_refl _) _ _ _) ?_
      rw [List.length_drop]
      cases l with
      | nil => simp at h
      | cons => simp only [List.length_cons]; omega
    · split
      · rename_i h
        refine Nat.le_trans (eightyW_len _ _ _ _) ?_
        rw [List.length_drop]
        match l, h with
        | [], h => simp at h
        | [x], h => simp at h
        | x :: y :: r, h => simp only [List.length_cons]; omega
      · split
        · rename_i h
          refine Nat.le_trans (hexW_len _ _ _ _) ?_
          rw [List.length_drop]
          cases l with
          | nil => simp at h
          | cons => simp only [List.length_cons]; omega
        · exact Nat.zero_le _
  · exact Nat.zero_le _
end Go.Proofs.Ytgahapnjlngebaa
