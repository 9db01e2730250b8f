/- Plain: words printed with a blank between are read back. -/
import Derived.Test.YtpgkjgceldleaaaZTokd
import Derived.Test.YtpgkjgceldleaaaZSrp
import Derived.Test.YtpgkjgceldleaaaZTokc
namespace Go.Proofs.Ytpgkjgceldleaaa
open Go.RowKit

/-- Each word with a blank ahead of it. -/
def glueL : List Tok → List UInt8
  | [] => []
  | t :: l => 32 :: (printL t ++ glueL l)
def printsL : List Tok → List UInt8
  | [] => []
  | t :: l => printL t ++ glueL l
/-- The words with the places at which they lie, behind a blank each. -/
def placed : Nat → List Tok → List Tok
  | _, [] => []
  | a, t :: l => { t with pos := ((a + 1 : Nat) : Int) } :: placed (a + 1 + (printL t).length) l
def placedF : List Tok → List Tok
  | [] => []
  | t :: l => { t with pos := 0 } :: placed (printL t).length l
theorem glue_end (l : List Tok) : EndT (glueL l) := by
  cases l with
  | nil => exact .inl rfl
  | cons t l => exact .inr ⟨32, _, rfl, by decide⟩
theorem next_nil : nextF [] = (0, Tok.nil, 0, 0) := by decide +kernel
theorem tokAt_nil (a : Nat) : tokAt a [] = Tok.nil := by unfold tokAt; rw [if_pos (.inl (by simp))]
theorem skip_blank (l : List UInt8) : skipL false (32 :: l) = 1 + skipL false l := by
  rw [skipL, if_pos (by decide)]
theorem next_glue (t : Tok) (hm : mayT t = true) (l : List Tok) : nextF (glueL (t :: l)) = (0, { t with pos := 0 }, 1, (printL t).length) := by
  obtain ⟨c, u, h1, h2, h3⟩ := print_head t hm
  have hs : skipL false (glueL (t :: l)) = 1 := by
    rw [glueL, skip_blank, h1, List.cons_append, skipL, if_neg h2, if_neg h3]
  unfold nextF
  rw [hs]
  have hd : (glueL (t :: l)).drop 1 = printL t ++ glueL l := rfl
  rw [hd, word_back t hm _ (glue_end l), if_neg (by rw [h1]; simp)]
  rfl
theorem at_glue (t : Tok) (hm : mayT t = true) (l : List Tok) (a : Nat) : tokAt a (glueL (t :: l)) = { t with pos := ((a + 1 : Nat) : Int) } := by
  obtain ⟨c, u, h1, h2, h3⟩ := print_head t hm
  have hs : skipL false (glueL (t :: l)) = 1 := by
    rw [glueL, skip_blank, h1, List.cons_append, skipL, if_neg h2, if_neg h3]
  unfold tokAt
  rw [hs, next_glue t hm l]
  have hd : (glueL (t :: l)).drop 1 = printL t ++ glueL l := rfl
  rw [hd, h1, if_neg (by simp)]
theorem all_glue : ∀ (l : List Tok), (∀ t ∈ l, mayT t = true) → ∀ (f a : Nat) (acc : List Tok), (glueL l).length < f → acc.length + l.length ≤ 4000 →
    allW f (glueL l) a acc = (0, acc ++ placed a l, 0)
  | [], _, f, a, acc, hf, _ => by
    obtain ⟨f, rfl⟩ : ∃ g, f = g + 1 := ⟨f - 1, by have : (glueL []).length = 0 := rfl; omega⟩
    rw [allW, glueL, next_nil, tokAt_nil]
    simp [placed, Tok.nil]
  | t :: l, hm, f, a, acc, hf, hn => by
    have ht := hm t (List.mem_cons_self ..)
    have hlen : (glueL (t :: l)).length = 1 + ((printL t).length + (glueL l).length) := by
      rw [glueL, List.length_cons, List.length_append]; omega
    obtain ⟨f, rfl⟩ : ∃ g, f = g + 1 := ⟨f - 1, by omega⟩
    have hd : (glueL (t :: l)).drop (1 + (printL t).length) = glueL l := by
      rw [Nat.add_comm, glueL, List.drop_succ_cons, List.drop_left]
    have ih := all_glue l (fun x hx => hm x (List.mem_cons_of_mem _ hx)) f (a + 1 + (printL t).length) (acc ++ [{ t with pos := ((a + 1 : Nat) : Int) }]) (by omega) (by simp only [List.length_append, List.length_cons, List.length_nil] at hn ⊢; omega)
    rw [allW, next_glue t ht l, at_glue t ht l]
    simp only [ne_eq, not_true_eq_false, if_false]
    rw [if_neg (may_kind t ht), if_neg (by simp only [List.length_cons] at hn; omega), hd, ih, placed]
    simp
theorem all_prints (l : List Tok) (hm : ∀ t ∈ l, mayT t = true) (hn : l.length ≤ 4000) (hl : (printsL l).length ≤ 20000) : allF (printsL l) = (0, placedF l, 0) := by
  unfold allF
  rw [if_neg (by omega)]
  cases l with
  | nil => rw [allW, printsL, next_nil, tokAt_nil]; rfl
  | cons t l =>
    have ht := hm t (List.mem_cons_self ..)
    have h1 := next_back t ht (glueL l) (glue_end l)
    obtain ⟨c, u, h2, h3, h4⟩ := print_head t ht
    have hs : skipL false (printL t ++ glueL l) = 0 := by rw [h2, List.cons_append, skipL, if_neg h3, if_neg h4]
    have h5 : tokAt 0 (printL t ++ glueL l) = { t with pos := 0 } := by
      unfold tokAt
      rw [hs, List.drop_zero, h1, if_neg (by rw [h2]; simp)]
      rfl
    show allW ((printL t ++ glueL l).length + 1) (printL t ++ glueL l) 0 [] = _
    rw [allW, h1, h5]
    simp only [ne_eq, not_true_eq_false, if_false]
    rw [if_neg (may_kind t ht), if_neg (by simp), Nat.zero_add, List.drop_left]
    rw [all_glue l (fun x hx => hm x (List.mem_cons_of_mem _ hx)) _ _ _ (by rw [List.length_append, h2, List.length_cons]; omega) (by simp only [List.nil_append, List.length_cons, List.length_nil] at hn ⊢; omega)]
    rfl
theorem placed_alike : ∀ (l : List Tok) (a : Nat), Alike false l (placed a l)
  | [], _ => Alike.refl _ _
  | t :: l, a => by
    obtain ⟨h1, h2⟩ := placed_alike l (a + 1 + (printL t).length)
    refine ⟨by simp [placed, h1], fun i x y hx hy => ?_⟩
    cases i with
    | zero =>
      simp only [placed, List.getElem?_cons_zero, Option.some.injEq] at hx hy
      subst hx hy
      exact ⟨rfl, rfl, rfl, fun h => Bool.noConfusion h⟩
    | succ i =>
      simp only [placed, List.getElem?_cons_succ] at hx hy
      exact h2 i x y hx hy
theorem placedF_alike (l : List Tok) : Alike false l (placedF l) := by
  cases l with
  | nil => exact Alike.refl _ _
  | cons t l =>
    obtain ⟨h1, h2⟩ := placed_alike l (printL t).length
    refine ⟨by simp [placedF, h1], fun i x y hx hy => ?_⟩
    cases i with
    | zero =>
      simp only [placedF, List.getElem?_cons_zero, Option.some.injEq] at hx hy
      subst hx hy
      exact ⟨rfl, rfl, rfl, fun h => Bool.noConfusion h⟩
    | succ i =>
      simp only [placedF, List.getElem?_cons_succ] at hx hy
      exact h2 i x y hx hy
end Go.Proofs.Ytpgkjgceldleaaa
