/- A dictionary's cell as plain data: what the heap's methods answer at it. -/
import Derived.Test.YtgllgemjfpiogaaLpt
namespace Go.Proofs.Ytgllgemjfpiogaa
open Go.RowKit

abbrev numO (v : Int) : O := ⟨3, false, v, 0, 0, ⟨#[]⟩⟩
abbrev dicO (N : Int) : O := ⟨10, false, N, 0, 0, ⟨#[]⟩⟩
def pairsL (ps : List (O × O)) : List O := ps.flatMap fun p => [p.1, p.2]
theorem pairs_length : ∀ ps : List (O × O), (pairsL ps).length = 2 * ps.length
  | [] => rfl
  | p :: ps => by
    have := pairs_length ps
    simp only [pairsL, List.flatMap_cons, List.length_append, List.length_cons, List.length_nil] at this ⊢
    omega
theorem pairs_key : ∀ (ps : List (O × O)) (i : Nat), (pairsL ps)[2 * i]? = (ps[i]?).map Prod.fst
  | [], i => by simp [pairsL]
  | p :: ps, 0 => by simp [pairsL]
  | p :: ps, i + 1 => by
    have := pairs_key ps i
    rw [show 2 * (i + 1) = 2 * i + 2 by omega]
    simpa [pairsL] using this
theorem pairs_val : ∀ (ps : List (O × O)) (i : Nat), (pairsL ps)[2 * i + 1]? = (ps[i]?).map Prod.snd
  | [], i => by simp [pairsL]
  | p :: ps, 0 => by simp [pairsL]
  | p :: ps, i + 1 => by
    have := pairs_val ps i
    rw [show 2 * (i + 1) + 1 = 2 * i + 1 + 2 by omega]
    simpa [pairsL] using this
/-- The items of a dictionary with room for so many pairs. -/
def dItems (ps : List (O × O)) (room : Nat) : List O := numO ps.length :: (pairsL ps ++ List.replicate (2 * (room - ps.length)) nullO)
abbrev dcell (ps : List (O × O)) (room : Nat) : C := ⟨false, true, false, dItems ps room, []⟩
theorem dItems_length (ps : List (O × O)) (room : Nat) (h : ps.length ≤ room) : (dItems ps room).length = 2 * room + 1 := by
  simp [dItems, pairs_length]; omega
/-- Item number j. -/
theorem dItems_at (ps : List (O × O)) (room : Nat) (h : ps.length ≤ room) (j : Nat) (hj : j < 2 * room + 1) :
    (dItems ps room)[j]? = some (if j = 0 then numO ps.length else match ps[(j - 1) / 2]? with | none => nullO | some p => if j % 2 = 1 then p.1 else p.2) := by
  cases j with
  | zero => simp [dItems]
  | succ j =>
    rw [if_neg (by omega)]
    simp only [dItems, List.getElem?_cons_succ, Nat.add_sub_cancel]
    obtain ⟨q, hq⟩ : ∃ q, j = 2 * q ∨ j = 2 * q + 1 := ⟨j / 2, by omega⟩
    by_cases hl : q < ps.length
    · rw [List.getElem?_append_left (by rw [pairs_length]; omega)]
      rcases hq with rfl | rfl
      · rw [pairs_key, show 2 * q / 2 = q by omega, List.getElem?_eq_getElem hl]
        have em : (2 * q + 1) % 2 = 1 := by omega
        simp [em]
      · rw [pairs_val, show (2 * q + 1) / 2 = q by omega, List.getElem?_eq_getElem hl]
        have em : ¬ (2 * q + 1 + 1) % 2 = 1 := by omega
        simp [em]
    · have hn : ps[j / 2]? = none := List.getElem?_eq_none (by omega)
      rw [hn, List.getElem?_append_right (by rw [pairs_length]; omega), pairs_length, List.getElem?_replicate, if_pos (by omega)]
/-- Lists that agree with a dictionary's items. -/
theorem dItems_ext (l : List O) (ps : List (O × O)) (room : Nat) (h : ps.length ≤ room) (hl : l.length = 2 * room + 1)
    (he : ∀ j, j < 2 * room + 1 → l[j]? = some (if j = 0 then numO ps.length else match ps[(j - 1) / 2]? with | none => nullO | some p => if j % 2 = 1 then p.1 else p.2)) : l = dItems ps room := by
  apply List.ext_getElem?
  intro j
  by_cases hj : j < 2 * room + 1
  · rw [he j hj, dItems_at ps room h j hj]
  · rw [List.getElem?_eq_none (by omega), List.getElem?_eq_none (by rw [dItems_length ps room h]; omega)]
theorem dItems_set (ps : List (O × O)) (room i : Nat) (h : ps.length ≤ room) (k v w : O) (hi : ps[i]? = some (k, w)) : (dItems ps room).set (2 * i + 2) v = dItems (ps.set i (k, v)) room := by
  have hlt : i < ps.length := (List.getElem?_eq_some_iff.1 hi).1
  refine dItems_ext _ _ _ (by simpa using h) (by simp [dItems_length ps room h]) fun j hj => ?_
  rw [List.getElem?_set, dItems_length ps room h]
  by_cases e : 2 * i + 2 = j
  · subst e
    rw [if_pos rfl, if_pos hj, if_neg (by omega), show (2 * i + 2 - 1) / 2 = i by omega]
    simp [hlt]
  · rw [if_neg e, dItems_at ps room h j hj]
    simp only [List.length_set]
    by_cases e0 : j = 0
    · rw [if_pos e0, if_pos e0]
    · rw [if_neg e0, if_neg e0, List.getElem?_set]
      by_cases e1 : i = (j - 1) / 2
      · rw [if_pos e1, if_pos (by omega), ← e1, hi]
        have : j % 2 = 1 := by omega
        simp [this]
      · rw [if_neg e1]
theorem dItems_push (ps : List (O × O)) (room : Nat) (h : ps.length < room) (k v : O) : (((dItems ps room).set (2 * ps.length + 1) k).set (2 * ps.length + 2) v).set 0 (numO (ps.length + 1 : Int)) = dItems (ps ++ [(k, v)]) room := by
  refine dItems_ext _ _ _ (by simp; omega) (by simp [dItems_length ps room (by omega)]) fun j hj => ?_
  rw [List.getElem?_set, List.getElem?_set, List.getElem?_set]
  simp only [List.length_set, dItems_length ps room (by omega)]
  by_cases e0 : 0 = j
  · subst e0; simp
  rw [if_neg e0, if_neg (show ¬ j = 0 by omega)]
  by_cases e1 : 2 * ps.length + 2 = j
  · rw [if_pos e1, if_pos (by omega), show (j - 1) / 2 = ps.length by omega]
    have : ¬ j % 2 = 1 := by omega
    simp [this]
  rw [if_neg e1]
  by_cases e2 : 2 * ps.length + 1 = j
  · rw [if_pos e2, if_pos (by omega), show (j - 1) / 2 = ps.length by omega]
    have : j % 2 = 1 := by omega
    simp [this]
  rw [if_neg e2, dItems_at ps room (by omega) j hj, if_neg (show ¬ j = 0 by omega)]
  by_cases hlt : (j - 1) / 2 < ps.length
  · rw [List.getElem?_append_left hlt]
  · rw [List.getElem?_eq_none (by omega), List.getElem?_eq_none (by simp; omega)]
/-- What Drop moves: places 2 a + 1 to i are done. -/
def dropped (ps : List (O × O)) (room a i : Nat) : List O :=
  (List.range (2 * room + 1)).map fun j => if j = 0 then numO ((ps.length : Int) - 1) else if 2 * a + 1 ≤ j ∧ j < i then (if j + 2 ≤ 2 * ps.length then (dItems ps room).getD (j + 2) O.nil else nullO) else (dItems ps room).getD j O.nil
theorem dropped_length (ps : List (O × O)) (room a i : Nat) : (dropped ps room a i).length = 2 * room + 1 := by simp [dropped]
theorem dropped_at (ps : List (O × O)) (room a i j : Nat) (hj : j < 2 * room + 1) :
    (dropped ps room a i)[j]? = some (if j = 0 then numO ((ps.length : Int) - 1) else if 2 * a + 1 ≤ j ∧ j < i then (if j + 2 ≤ 2 * ps.length then (dItems ps room).getD (j + 2) O.nil else nullO) else (dItems ps room).getD j O.nil) := by
  simp [dropped, hj]
theorem dropped_start (ps : List (O × O)) (room a : Nat) (h : ps.length ≤ room) : (dItems ps room).set 0 (numO ((ps.length : Int) - 1)) = dropped ps room a (2 * a + 1) := by
  apply List.ext_getElem?
  intro j
  by_cases hj : j < 2 * room + 1
  · rw [dropped_at _ _ _ _ _ hj, List.getElem?_set, dItems_length ps room h]
    by_cases e : 0 = j
    · rw [if_pos e, if_pos (by omega), if_pos e.symm]
    · rw [if_neg e, if_neg (by omega), if_neg (by omega), dItems_at ps room h j hj]
      rw [List.getD_eq_getElem?_getD, dItems_at ps room h j hj]; rfl
  · rw [List.getElem?_eq_none (by simp [dItems_length ps room h]; omega), List.getElem?_eq_none (by rw [dropped_length]; omega)]
theorem dropped_step (ps : List (O × O)) (room a i : Nat) (h : ps.length ≤ room) (hi : 2 * a + 1 ≤ i) (hi' : i ≤ 2 * ps.length) (x : O)
    (hx : x = if i + 2 ≤ 2 * ps.length then (dropped ps room a i).getD (i + 2) O.nil else nullO) : (dropped ps room a i).set i x = dropped ps room a (i + 1) := by
  apply List.ext_getElem?
  intro j
  by_cases hj : j < 2 * room + 1
  · rw [dropped_at _ _ _ _ _ hj, List.getElem?_set, dropped_length]
    by_cases e : i = j
    · subst e
      rw [if_pos rfl, if_pos hj, if_neg (by omega), if_pos (by omega), hx]
      by_cases e2 : i + 2 ≤ 2 * ps.length
      · rw [if_pos e2, if_pos e2, List.getD_eq_getElem?_getD, dropped_at _ _ _ _ _ (by omega), if_neg (by omega), if_neg (by omega)]; rfl
      · rw [if_neg e2, if_neg e2]
    · rw [if_neg e, dropped_at _ _ _ _ _ hj]
      by_cases e0 : j = 0
      · rw [if_pos e0, if_pos e0]
      · rw [if_neg e0, if_neg e0]
        by_cases e1 : 2 * a + 1 ≤ j ∧ j < i
        · simp only [if_pos e1, if_pos (show 2 * a + 1 ≤ j ∧ j < i + 1 by omega)]
        · simp only [if_neg e1, if_neg (show ¬ (2 * a + 1 ≤ j ∧ j < i + 1) by omega)]
  · rw [List.getElem?_eq_none (by rw [List.length_set, dropped_length]; omega), List.getElem?_eq_none (by rw [dropped_length]; omega)]
theorem dropped_end (ps : List (O × O)) (room a : Nat) (h : ps.length ≤ room) (ha : a < ps.length) : dropped ps room a (2 * ps.length + 1) = dItems (ps.eraseIdx a) room := by
  have hl : (ps.eraseIdx a).length = ps.length - 1 := by simp [List.length_eraseIdx, ha]
  refine dItems_ext _ _ _ (by omega) (dropped_length ..) fun j hj => ?_
  rw [dropped_at _ _ _ _ _ hj]
  by_cases e0 : j = 0
  · rw [if_pos e0, if_pos e0, hl]
    congr 2; omega
  rw [if_neg e0, if_neg e0]
  by_cases e1 : 2 * a + 1 ≤ j ∧ j < 2 * ps.length + 1
  · by_cases e2 : j + 2 ≤ 2 * ps.length
    · simp only [if_pos e1, if_pos e2]
      rw [List.getElem?_eraseIdx, if_neg (by omega), List.getD_eq_getElem?_getD, dItems_at ps room h _ (by omega), if_neg (by omega), show (j + 2 - 1) / 2 = (j - 1) / 2 + 1 by omega, show (j + 2) % 2 = j % 2 by omega]; rfl
    · simp only [if_pos e1, if_neg e2]
      rw [List.getElem?_eq_none (by omega)]
  · rw [if_neg e1, List.getD_eq_getElem?_getD, dItems_at ps room h j hj, if_neg e0, List.getElem?_eraseIdx]
    by_cases e2 : (j - 1) / 2 < a
    · rw [if_pos e2]; rfl
    · rw [if_neg e2, List.getElem?_eq_none (show ps.length ≤ (j - 1) / 2 by omega), List.getElem?_eq_none (by omega)]; rfl
end Go.Proofs.Ytgllgemjfpiogaa
