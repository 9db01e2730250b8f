/- Walk: say's (*teller).whole at an array. -/
import Derived.Test.YtgahapnjlngebaaZSaya
namespace Go.Proofs.Ytgahapnjlngebaa
open Go.RowKit

/-- The first i items' texts, a blank between. -/
def jn (T : O → List UInt8) (l : List O) : Nat → List UInt8
  | 0 => []
  | i + 1 => jn T l i ++ ((if i = 0 then [] else [32]) ++ T (l.getD i O.nil))
def arrT (ex : Bool) (T : O → List UInt8) (l : List O) : List UInt8 := (if ex then 123 else 91) :: (jn T l l.length ++ [if ex then 125 else 93])
theorem jn_pre (T : O → List UInt8) (l : List O) (i j : Nat) (h : i ≤ j) : ∃ r, jn T l j = jn T l i ++ r := by
  induction j with
  | zero => exact ⟨[], by rw [show i = 0 by omega]; simp⟩
  | succ j ih =>
    by_cases e : i = j + 1
    · subst e; exact ⟨[], by simp⟩
    · obtain ⟨r, hr⟩ := ih (by omega)
      exact ⟨_, by rw [jn, hr, List.append_assoc]⟩
theorem cut_pre (u r : List UInt8) (h : ¬ u.length < 1000) : (u ++ r).take 1000 = u.take 1000 ∧ decide ((u ++ r).length < 1000) = false := by
  refine ⟨List.take_append_of_le_length (by omega), decide_eq_false ?_⟩
  rw [List.length_append]
  omega
theorem cell_lt' {w : World} {a : Addr} {v : Value} (h : w.cell? a = some v) : a.block < w.heap.size := by
  apply Classical.byContradiction
  intro hn
  have : w.heap[a.block]? = none := Array.getElem?_eq_none (by omega)
  simp [World.cell?, this] at h
end Go.Proofs.Ytgahapnjlngebaa
