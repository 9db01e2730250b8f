/- Plain: what token.Print writes. -/
import Derived.Test.YtpgkjgceldleaaaZMwd
import Derived.Test.YtpgkjgceldleaaaZSrp
namespace Go.Proofs.Ytpgkjgceldleaaa
open Go.RowKit

theorem glue_app : ∀ l m : List Tok, glueL (l ++ m) = glueL l ++ glueL m
  | [], _ => rfl
  | t :: l, m => by rw [List.cons_append, glueL, glueL, glue_app l m]; simp
theorem prints_snoc (l : List Tok) (t : Tok) : printsL (l ++ [t]) = printsL l ++ ((if l = [] then [] else [32]) ++ printL t) := by
  cases l with
  | nil => simp [printsL, glueL]
  | cons u l => rw [List.cons_append, printsL, printsL, glue_app, if_neg (by simp)]; simp [glueL]
theorem prints_take (l : List Tok) (i : Nat) (t : Tok) (h : l[i]? = some t) : printsL (l.take (i + 1)) = printsL (l.take i) ++ ((if i = 0 then [] else [32]) ++ printL t) := by
  obtain ⟨hi, rfl⟩ := List.getElem?_eq_some_iff.1 h
  rw [List.take_succ_eq_append_getElem hi, prints_snoc]
  by_cases c : i = 0
  · subst c; simp
  · rw [if_neg c, if_neg (fun e => by
      have := congrArg List.length e
      rw [List.length_take, List.length_nil] at this
      omega)]
theorem prints_app (l m : List Tok) : (printsL l).length ≤ (printsL (l ++ m)).length := by
  cases l with
  | nil => simp [printsL]
  | cons t l => rw [List.cons_append, printsL, printsL, glue_app]; simp
theorem prints_mono (l : List Tok) (i : Nat) : (printsL (l.take i)).length ≤ (printsL l).length := by
  have := prints_app (l.take i) (l.drop i)
  rwa [List.take_append_drop] at this
/-- The text and the error of token.Print. -/
def printF (l : List Tok) : List UInt8 × Int :=
  if ¬ ∀ t ∈ l, mayT t = true then ([], 1) else if 4000 < l.length then ([], 5) else if 20000 < (printsL l).length then ([], 5) else (printsL l, 0)
theorem printF_ok (l : List Tok) (h : (printF l).2 = 0) : (∀ t ∈ l, mayT t = true) ∧ l.length ≤ 4000 ∧ (printF l).1 = printsL l ∧ allF (printsL l) = (0, placedF l, 0) := by
  unfold printF at h ⊢
  by_cases c1 : ∀ t ∈ l, mayT t = true
  · rw [if_neg (fun e => e c1)] at h ⊢
    by_cases c2 : 4000 < l.length
    · rw [if_pos c2] at h; exact absurd h (by decide)
    · rw [if_neg c2] at h ⊢
      by_cases c3 : 20000 < (printsL l).length
      · rw [if_pos c3] at h; exact absurd h (by decide)
      · rw [if_neg c3]
        exact ⟨c1, by omega, rfl, all_prints l c1 (by omega) (by omega)⟩
  · rw [if_pos c1] at h; exact absurd h (by decide)
/-- The words of a text are printed, or the text is too long. -/
theorem printF_all (l : List UInt8) : (printF (allF l).2.1).2 = 0 ∨ (printF (allF l).2.1).2 = 5 := by
  obtain ⟨h1, h2, -⟩ := allF_may l
  unfold printF
  rw [if_neg (fun e => e h1), if_neg (by omega)]
  split
  · exact .inr rfl
  · exact .inl rfl
end Go.Proofs.Ytpgkjgceldleaaa
