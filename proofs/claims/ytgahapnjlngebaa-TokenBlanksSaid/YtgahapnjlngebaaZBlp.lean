/- Plain: words with blanks and remarks between them are read back. -/
import Derived.Test.YtgahapnjlngebaaZPrf
import Derived.Test.YtgahapnjlngebaaZQpr
namespace Go.Proofs.Ytgahapnjlngebaa
open Go.RowKit

/-- What stands between two words. -/
def gapL (g : Nat) : List UInt8 :=
  if g = 0 then [32] else if g = 1 then [10] else if g = 2 then [37, 32, 40, 32, 123, 32, 37, 13] else if g = 3 then [0, 9, 32] else [37, 10, 37, 10]
/-- What stands at the end. -/
def endL (g : Nat) : List UInt8 := if g = 0 then [] else if g = 1 then [32] else if g = 2 then [37] else [37, 32, 125, 123, 40]
/-- Words, each with a gap ahead of it. -/
def blkL (G : Nat → Nat) : Nat → List Tok → List UInt8
  | _, [] => []
  | k, t :: l => gapL (G k) ++ (printL t ++ blkL G (k + 1) l)
def placedG (G : Nat → Nat) : Nat → Nat → List Tok → List Tok
  | _, _, [] => []
  | k, a, t :: l => { t with pos := ((a + (gapL (G k)).length : Nat) : Int) } :: placedG G (k + 1) (a + (gapL (G k)).length + (printL t).length) l
theorem skip_gap (g : Nat) (X : List UInt8) : skipL false (gapL g ++ X) = (gapL g).length + skipL false X := by
  have k1 : ∀ c ∈ ([0, 9, 10, 13, 32] : List UInt8), kindI c.toNat = 1 := by decide
  have k37 : ¬ kindI (37 : UInt8).toNat = 1 := by decide
  have h10 : (10 : UInt8) = 10 ∨ (10 : UInt8) = 13 := .inl rfl
  have h13 : (13 : UInt8) = 10 ∨ (13 : UInt8) = 13 := .inr rfl
  have hn : ∀ c ∈ ([32, 40, 123, 37] : List UInt8), ¬ (c = 10 ∨ c = 13) := by decide
  unfold gapL
  by_cases g0 : g = 0
  · rw [if_pos g0, List.singleton_append, skipL, if_pos (k1 32 (by decide))]; rfl
  rw [if_neg g0]
  by_cases g1 : g = 1
  · rw [if_pos g1, List.singleton_append, skipL, if_pos (k1 10 (by decide))]; rfl
  rw [if_neg g1]
  by_cases g2 : g = 2
  · rw [if_pos g2]
    simp only [List.cons_append, List.nil_append, List.length_cons, List.length_nil]
    rw [skipL, if_neg k37, if_pos rfl, skipL, if_neg (hn 32 (by decide)), skipL, if_neg (hn 40 (by decide)), skipL, if_neg (hn 32 (by decide)), skipL, if_neg (hn 123 (by decide)), skipL, if_neg (hn 32 (by decide)), skipL, if_neg (hn 37 (by decide)), skipL, if_pos h13]
    omega
  rw [if_neg g2]
  by_cases g3 : g = 3
  · rw [if_pos g3]
    simp only [List.cons_append, List.nil_append, List.length_cons, List.length_nil]
    rw [skipL, if_pos (k1 0 (by decide)), skipL, if_pos (k1 9 (by decide)), skipL, if_pos (k1 32 (by decide))]
    omega
  rw [if_neg g3]
  simp only [List.cons_append, List.nil_append, List.length_cons, List.length_nil]
  rw [skipL, if_neg k37, if_pos rfl, skipL, if_pos h10, skipL, if_neg k37, if_pos rfl, skipL, if_pos h10]
  omega
theorem gap_head (g : Nat) (X : List UInt8) : ∃ c u, gapL g ++ X = c :: u ∧ (isBlank c = true ∨ c = 37) := by
  unfold gapL
  repeat' split
  all_goals exact ⟨_, _, rfl, by decide⟩
theorem end_end (g : Nat) : EndT (endL g) := by
  unfold endL
  split
  · exact .inl rfl
  split
  · exact .inr ⟨_, _, rfl, by decide⟩
  split
  · exact .inr ⟨_, _, rfl, by decide⟩
  · exact .inr ⟨_, _, rfl, by decide⟩
theorem blk_end (G : Nat → Nat) (k : Nat) (l : List Tok) (g : Nat) : EndT (blkL G k l ++ endL g) := by
  cases l with
  | nil => exact end_end g
  | cons t l =>
    obtain ⟨c, u, h1, h2⟩ := gap_head (G k) (printL t ++ blkL G (k + 1) l ++ endL g)
    refine .inr ⟨c, u, ?_, h2⟩
    rw [← h1, blkL]
    simp
theorem end_next (g : Nat) : nextF (endL g) = (0, Tok.nil, (endL g).length, 0) ∧ ∀ a, tokAt a (endL g) = Tok.nil := by
  have hs : skipL false (endL g) = (endL g).length := by
    unfold endL
    repeat' split
    all_goals decide
  have hd : (endL g).drop (skipL false (endL g)) = [] := by rw [hs, List.drop_length]
  refine ⟨?_, fun a => ?_⟩
  · unfold nextF; rw [if_pos hd, hs]
  · unfold tokAt; rw [if_pos (.inl hd)]
theorem all_blk (G : Nat → Nat) (g : Nat) : ∀ (l : List Tok), (∀ t ∈ l, mayT t = true) → ∀ (k f a : Nat) (acc : List Tok), (blkL G k l ++ endL g).length < f → acc.length + l.length ≤ 4000 →
    allW f (blkL G k l ++ endL g) a acc = (0, acc ++ placedG G k a l, 0)
  | [], _, k, f, a, acc, hf, _ => by
    obtain ⟨f, rfl⟩ : ∃ m, f = m + 1 := ⟨f - 1, by omega⟩
    obtain ⟨h1, h2⟩ := end_next g
    rw [blkL, List.nil_append, allW, h1, h2]
    simp [placedG, Tok.nil]
  | t :: l, hm, k, f, a, acc, hf, hn => by
    have ht := hm t (List.mem_cons_self ..)
    obtain ⟨c, u, h1, h2, h3⟩ := print_head t ht
    have he : blkL G k (t :: l) ++ endL g = gapL (G k) ++ (printL t ++ (blkL G (k + 1) l ++ endL g)) := by rw [blkL]; simp
    have hs : skipL false (blkL G k (t :: l) ++ endL g) = (gapL (G k)).length := by
      rw [he, skip_gap, h1, List.cons_append, skipL, if_neg h2, if_neg h3, Nat.add_zero]
    have hd : (blkL G k (t :: l) ++ endL g).drop (gapL (G k)).length = printL t ++ (blkL G (k + 1) l ++ endL g) := by rw [he, List.drop_left]
    have hnx : nextF (blkL G k (t :: l) ++ endL g) = (0, { t with pos := 0 }, (gapL (G k)).length, (printL t).length) := by
      unfold nextF
      rw [hs, hd, word_back t ht _ (blk_end G (k + 1) l g), if_neg (by rw [h1]; simp)]
      rfl
    have hat : tokAt a (blkL G k (t :: l) ++ endL g) = { t with pos := ((a + (gapL (G k)).length : Nat) : Int) } := by
      unfold tokAt
      rw [hs, hnx, hd, h1, if_neg (by simp)]
    have hd2 : (blkL G k (t :: l) ++ endL g).drop ((gapL (G k)).length + (printL t).length) = blkL G (k + 1) l ++ endL g := by
      rw [← List.drop_drop, hd, List.drop_left]
    obtain ⟨f, rfl⟩ : ∃ m, f = m + 1 := ⟨f - 1, by omega⟩
    have hlen : (blkL G (k + 1) l ++ endL g).length < f := by
      rw [he, List.length_append, List.length_append, h1, List.length_cons] at hf
      omega
    have ih := all_blk G g l (fun x hx => hm x (List.mem_cons_of_mem _ hx)) (k + 1) f (a + (gapL (G k)).length + (printL t).length) (acc ++ [{ t with pos := ((a + (gapL (G k)).length : Nat) : Int) }]) hlen (by simp only [List.length_append, List.length_cons, List.length_nil] at hn ⊢; omega)
    rw [allW, hnx, hat]
    simp only [ne_eq, not_true_eq_false, if_false]
    rw [if_neg (may_kind t ht), if_neg (by simp only [List.length_cons] at hn; omega), hd2, ih, placedG]
    simp
theorem allF_blk (G : Nat → Nat) (g : Nat) (l : List Tok) (hm : ∀ t ∈ l, mayT t = true) (hn : l.length ≤ 4000) (hl : (blkL G 0 l ++ endL g).length ≤ 20000) :
    allF (blkL G 0 l ++ endL g) = (0, placedG G 0 0 l, 0) := by
  unfold allF
  rw [if_neg (by omega), all_blk G g l hm 0 _ 0 [] (by omega) (by simpa using hn)]
  rfl
theorem placedG_alike (G : Nat → Nat) : ∀ (l : List Tok) (k a : Nat), Alike false l (placedG G k a l)
  | [], _, _ => Alike.refl _ _
  | t :: l, k, a => by
    obtain ⟨h1, h2⟩ := placedG_alike G l (k + 1) (a + (gapL (G k)).length + (printL t).length)
    refine ⟨by simp [placedG, h1], fun i x y hx hy => ?_⟩
    cases i with
    | zero =>
      simp only [placedG, List.getElem?_cons_zero, Option.some.injEq] at hx hy
      subst hx hy
      exact ⟨rfl, rfl, rfl, fun h => Bool.noConfusion h⟩
    | succ i =>
      simp only [placedG, List.getElem?_cons_succ] at hx hy
      exact h2 i x y hx hy
theorem blk_snoc (G : Nat → Nat) (t : Tok) : ∀ (l : List Tok) (k : Nat), blkL G k (l ++ [t]) = blkL G k l ++ (gapL (G (k + l.length)) ++ printL t)
  | [], k => by simp [blkL]
  | u :: l, k => by
    rw [List.cons_append, blkL, blk_snoc G t l (k + 1), blkL, List.length_cons, show k + 1 + l.length = k + (l.length + 1) by omega]
    simp
theorem blk_take (G : Nat → Nat) (l : List Tok) (i : Nat) (t : Tok) (h : l[i]? = some t) : blkL G 0 (l.take (i + 1)) = blkL G 0 (l.take i) ++ (gapL (G i) ++ printL t) := by
  obtain ⟨hi, rfl⟩ := List.getElem?_eq_some_iff.1 h
  rw [List.take_succ_eq_append_getElem hi, blk_snoc, List.length_take, Nat.zero_add, Nat.min_eq_left (by omega)]
theorem gap_len (g : Nat) : (gapL g).length ≤ 8 := by
  unfold gapL
  repeat' split
  all_goals simp
theorem end_len (g : Nat) : (endL g).length ≤ 5 := by
  unfold endL
  repeat' split
  all_goals simp
/-- How long a small word is. -/
theorem print_100 (t : Tok) (hm : mayT t = true) (hs0 : t.s.size ≤ 100) : (printL t).length ≤ 402 := by
  obtain ⟨k, n, s, p⟩ := t
  unfold mayT at hm
  unfold printL
  simp only at hm hs0 ⊢
  have hs := size_lst s
  by_cases h1 : k = 1
  · rw [if_pos h1] at hm ⊢
    simp only [Bool.and_eq_true, decide_eq_true_eq] at hm
    have := decL_short n (by omega) (by omega)
    omega
  rw [if_neg h1] at hm ⊢
  by_cases h2 : k = 2
  · rw [if_pos h2] at hm ⊢
    simp only [Bool.and_eq_true, decide_eq_true_eq] at hm
    have := fix_len n (by omega) (by omega)
    omega
  rw [if_neg h2] at hm ⊢
  by_cases h3 : k = 3
  · rw [if_pos h3]; omega
  rw [if_neg h3]
  by_cases h4 : k = 4
  · rw [if_pos h4, List.length_cons]; omega
  rw [if_neg h4]
  by_cases h5 : k = 5
  · rw [if_pos h5, List.length_cons, List.length_cons]; omega
  rw [if_neg h5]
  by_cases h6 : k = 6
  · rw [if_pos h6]
    have := quote_len s.toList
    show (40 :: (quoteQ s.toList ++ [41])).length ≤ 402
    simp; omega
  rw [if_neg h6]
  unfold signL
  repeat' split
  all_goals simp
theorem blk_len (G : Nat → Nat) : ∀ (l : List Tok) (k : Nat), (∀ t ∈ l, mayT t = true ∧ t.s.size ≤ 100) → (blkL G k l).length ≤ 410 * l.length
  | [], _, _ => by simp [blkL]
  | t :: l, k, h => by
    have h1 := print_100 t (h t (by simp)).1 (h t (by simp)).2
    have h2 := gap_len (G k)
    have h3 := blk_len G l (k + 1) (fun x hx => h x (by simp [hx]))
    rw [blkL, List.length_append, List.length_append, List.length_cons]
    omega
end Go.Proofs.Ytgahapnjlngebaa
