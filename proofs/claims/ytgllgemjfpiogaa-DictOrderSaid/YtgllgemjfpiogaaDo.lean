/- The pairs of DictOrder, as plain data. -/
import Derived.Test.YtgllgemjfpiogaaDob
namespace Go.Proofs.Ytgllgemjfpiogaa
open Go.RowKit

abbrev fixO (v : Int) : O := ⟨4, false, v, 0, 0, ⟨#[]⟩⟩
theorem size_num (v : Int) (h : -2147483647 ≤ v) (h' : v ≤ 2147483647) : sizeO (numO v) = (v * 65536, true) := by
  have : mayO (numO v) = true := by simp [mayO, eqO, bareO, O.nil]; omega
  simp [sizeO, this]
theorem size_fix (v : Int) (h : -1073741823 ≤ v) (h' : v ≤ 1073741823) : sizeO (fixO v) = (v, true) := by
  have : mayO (fixO v) = true := by simp [mayO, eqO, bareO, O.nil]; omega
  simp [sizeO, this]
theorem same_nums (a b : Int) (h : -2147483647 ≤ a) (h' : a ≤ 2147483647) (g : -2147483647 ≤ b) (g' : b ≤ 2147483647) : sameO (numO a) (numO b) = decide (a = b) := by
  unfold sameO
  rw [size_num a h h', size_num b g g', if_pos ⟨rfl, rfl⟩]
  by_cases e : a = b
  · simp [e]
  · have : ¬ a * 65536 = b * 65536 := by omega
    simp [e, this]
theorem same_fix (a b : Int) (h : -2147483647 ≤ a) (h' : a ≤ 2147483647) (g : -1073741823 ≤ b) (g' : b ≤ 1073741823) : sameO (numO a) (fixO b) = decide (a * 65536 = b) := by
  unfold sameO
  rw [size_num a h h', size_fix b g g', if_pos ⟨rfl, rfl⟩]
def prF (i : Nat) : O × O := (numO i, numO (100 + (i : Int)))
def pr (j : Nat) : List (O × O) := (List.range j).map prF
theorem pr_length (j : Nat) : (pr j).length = j := by simp [pr]
theorem pr_at (j i : Nat) (p : O × O) (h : (pr j)[i]? = some p) : i < j ∧ p = prF i := by
  have hl := (List.getElem?_eq_some_iff.1 h).1
  simp only [pr_length] at hl
  simp [pr, hl] at h
  exact ⟨hl, h.symm⟩
theorem pr_succ (j : Nat) : pr (j + 1) = pr j ++ [prF j] := by simp [pr, List.range_succ]
theorem place_next (j : Nat) (hj : j < 1000) : PlaceS (pr j) (numO j) 0 false := .inr ⟨rfl, rfl, fun i p h => by
  obtain ⟨hi, rfl⟩ := pr_at j i p h
  simp only [prF]
  rw [same_nums _ _ (by omega) (by omega) (by omega) (by omega)]
  simp; omega⟩
theorem place_minus (j : Nat) (hj : j < 1000) : PlaceS (pr j) (numO (-1)) 0 false := .inr ⟨rfl, rfl, fun i p h => by
  obtain ⟨hi, rfl⟩ := pr_at j i p h
  simp only [prF]
  rw [same_nums _ _ (by omega) (by omega) (by omega) (by omega)]
  simp; try omega⟩
theorem place_fix (j out : Nat) (hj : j < 1000) (ho : out < j) : PlaceS (pr j) (fixO ((out : Int) * 65536)) out true := .inl ⟨rfl, ⟨prF out, by simp [pr, ho], by
  simp only [prF]
  rw [same_fix _ _ (by omega) (by omega) (by omega) (by omega)]; simp⟩, fun i p hi h => by
  obtain ⟨-, rfl⟩ := pr_at j i p h
  simp only [prF]
  rw [same_fix _ _ (by omega) (by omega) (by omega) (by omega)]
  simp; omega⟩
/-- What is left of the first j. -/
def lef (out j : Nat) : List Nat := (List.range j).filter (fun i => decide (i ≠ out))
theorem lef_succ (out j : Nat) : lef out (j + 1) = if j = out then lef out j else lef out j ++ [j] := by
  simp only [lef, List.range_succ, List.filter_append]
  by_cases h : j = out
  · simp [h]
  · simp [h]
theorem lef_mem (out j i : Nat) : i ∈ lef out j ↔ i < j ∧ i ≠ out := by simp [lef]
theorem lef_nodup (out j : Nat) : (lef out j).Nodup := List.Pairwise.filter _ List.nodup_range
theorem lef_all (out j : Nat) (h : j ≤ out) : lef out j = List.range j := by
  refine List.filter_eq_self.2 fun i hi => ?_
  simp at hi ⊢; omega
theorem pr_erase (out : Nat) : ∀ j, out < j → (pr j).eraseIdx out = (lef out j).map prF
  | 0, h => by omega
  | j + 1, h => by
    rw [pr_succ, lef_succ]
    by_cases e : j = out
    · subst e
      rw [if_pos rfl, lef_all _ _ (Nat.le_refl _), List.eraseIdx_append_of_length_le (by rw [pr_length]; exact Nat.le_refl _), pr_length]
      simp [pr]
    · rw [if_neg e, List.eraseIdx_append_of_lt_length (by rw [pr_length]; omega), pr_erase out j (by omega)]
      simp
theorem lef_length (out : Nat) : ∀ j, out < j → (lef out j).length = j - 1 := fun j h => by
  have := congrArg List.length (pr_erase out j h)
  rw [List.length_eraseIdx, pr_length] at this
  simp [h] at this; omega
/-- The pairs in the end: set is the key that is set again. -/
def prG (set i : Nat) : O × O := (numO i, if i = set then nullO else numO (100 + (i : Int)))
theorem map_same (set : Nat) (l : List Nat) (h : set ∉ l) : l.map prF = l.map (prG set) := by
  refine List.map_congr_left fun i hi => ?_
  have : i ≠ set := fun e => h (e ▸ hi)
  simp [prF, prG, this]
theorem place_out (out k : Nat) (hk : k < 1000) (ho : out < k) : PlaceS ((lef out k).map prF) (numO out) 0 false := .inr ⟨rfl, rfl, fun i p h => by
  rw [List.getElem?_map] at h
  cases hi : (lef out k)[i]? with
  | none => rw [hi] at h; simp at h
  | some x =>
    rw [hi] at h; simp at h; subst h
    have hx := (lef_mem out k x).1 (List.mem_of_getElem? hi)
    simp only [prF]
    rw [same_nums _ _ (by omega) (by omega) (by omega) (by omega)]
    simp; omega⟩
theorem place_set (out set k : Nat) (hk : k < 1000) (hs : set < k) (hne : set ≠ out) : ∃ r, PlaceS ((lef out k).map prF) (numO set) r true ∧ ((lef out k).map prF)[r]? = some (prF set) ∧ ((lef out k).map prF).set r (numO set, nullO) = (lef out k).map (prG set) := by
  obtain ⟨r, hr, e⟩ := List.getElem_of_mem ((lef_mem out k set).2 ⟨hs, hne⟩)
  have nd := lef_nodup out k
  have uniq : ∀ i (hi : i < (lef out k).length), (lef out k)[i] = set → i = r := fun i hi e' => by
    have P := List.pairwise_iff_getElem.1 nd
    rcases Nat.lt_trichotomy i r with g | g | g
    · exact absurd (e'.trans e.symm) (P i r hi hr g)
    · exact g
    · exact absurd (e.trans e'.symm) (P r i hr hi g)
  have hat : ((lef out k).map prF)[r]? = some (prF set) := by simp [hr, e]
  refine ⟨r, .inl ⟨rfl, ⟨prF set, hat, ?_⟩, fun i p hi h => ?_⟩, hat, ?_⟩
  · simp only [prF]; rw [same_nums _ _ (by omega) (by omega) (by omega) (by omega)]; simp
  · rw [List.getElem?_map] at h
    have hil : i < (lef out k).length := by omega
    rw [List.getElem?_eq_getElem hil] at h
    simp at h; subst h
    have hx := (lef_mem out k _).1 (List.getElem_mem hil)
    simp only [prF]
    rw [same_nums _ _ (by omega) (by omega) (by omega) (by omega)]
    simp only [decide_eq_false_iff_not]
    intro e'
    have := uniq i hil (by omega)
    omega
  · apply List.ext_getElem?
    intro i
    rw [List.getElem?_set, List.getElem?_map, List.getElem?_map, List.length_map]
    by_cases hi : i < (lef out k).length
    · by_cases e1 : r = i
      · subst e1
        rw [if_pos rfl, if_pos hr, List.getElem?_eq_getElem hr, e]
        simp [prG]
      · rw [if_neg e1, List.getElem?_eq_getElem hi]
        have : (lef out k)[i] ≠ set := fun e' => e1 (uniq i hi e').symm
        simp [prF, prG, this]
    · rw [if_neg (by omega), List.getElem?_eq_none (by omega)]; rfl
end Go.Proofs.Ytgllgemjfpiogaa
