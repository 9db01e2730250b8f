/- Dpl, Dpm, Dob, Dos, Dk, Dl, Dm -/
import Derived.Test.YtaagobmnogmofaaZHeapd
/- A dictionary's cell as plain data: what the heap's methods answer at it. -/
namespace Go.Proofs.Ytaagobmnogmofaa
open Go.RowKit

abbrev numO (v : Int) : O := ⟨3, false, v, 0, 0, ⟨#[]⟩⟩
abbrev dicO (N : Int) : O := ⟨10, false, N, 0, 0, ⟨#[]⟩⟩
def pairsL (ps : List (O × O)) : List O := ps.flatMap fun p => [p.1, p.2]
theorem pairs_length : ∀ ps : List (O × O), (pairsL ps).length = 2 * ps.length
  | [] => rfl
  | p :: ps => by
    have := pairs_length ps
    simp only [pairsL, List.flatMap_cons, List.length_append, List.length_cons, List.length_nil] at this ⊢
    omega
theorem pairs_key : ∀ (ps : List (O × O)) (i : Nat), (pairsL ps)[2 * i]? = (ps[i]?).map Prod.fst
  | [], i => by simp [pairsL]
  | p :: ps, 0 => by simp [pairsL]
  | p :: ps, i + 1 => by
    have := pairs_key ps i
    rw [show 2 * (i + 1) = 2 * i + 2 by omega]
    simpa [pairsL] using this
theorem pairs_val : ∀ (ps : List (O × O)) (i : Nat), (pairsL ps)[2 * i + 1]? = (ps[i]?).map Prod.snd
  | [], i => by simp [pairsL]
  | p :: ps, 0 => by simp [pairsL]
  | p :: ps, i + 1 => by
    have := pairs_val ps i
    rw [show 2 * (i + 1) + 1 = 2 * i + 1 + 2 by omega]
    simpa [pairsL] using this
/-- The items of a dictionary with room for so many pairs. -/
def dItems (ps : List (O × O)) (room : Nat) : List O := numO ps.length :: (pairsL ps ++ List.replicate (2 * (room - ps.length)) nullO)
/-- A dictionary's cell: locked, or not. -/
abbrev dcellk (lk : Bool) (ps : List (O × O)) (room : Nat) : C := ⟨false, true, lk, dItems ps room, []⟩
abbrev dcell (ps : List (O × O)) (room : Nat) : C := dcellk false ps room
theorem dItems_length (ps : List (O × O)) (room : Nat) (h : ps.length ≤ room) : (dItems ps room).length = 2 * room + 1 := by
  simp [dItems, pairs_length]; omega
/-- Item number j. -/
theorem dItems_at (ps : List (O × O)) (room : Nat) (h : ps.length ≤ room) (j : Nat) (hj : j < 2 * room + 1) :
    (dItems ps room)[j]? = some (if j = 0 then numO ps.length else match ps[(j - 1) / 2]? with | none => nullO | some p => if j % 2 = 1 then p.1 else p.2) := by
  cases j with
  | zero => simp [dItems]
  | succ j =>
    rw [if_neg (by omega)]
    simp only [dItems, List.getElem?_cons_succ, Nat.add_sub_cancel]
    obtain ⟨q, hq⟩ : ∃ q, j = 2 * q ∨ j = 2 * q + 1 := ⟨j / 2, by omega⟩
    by_cases hl : q < ps.length
    · rw [List.getElem?_append_left (by rw [pairs_length]; omega)]
      rcases hq with rfl | rfl
      · rw [pairs_key, show 2 * q / 2 = q by omega, List.getElem?_eq_getElem hl]
        have em : (2 * q + 1) % 2 = 1 := by omega
        simp [em]
      · rw [pairs_val, show (2 * q + 1) / 2 = q by omega, List.getElem?_eq_getElem hl]
        have em : ¬ (2 * q + 1 + 1) % 2 = 1 := by omega
        simp [em]
    · have hn : ps[j / 2]? = none := List.getElem?_eq_none (by omega)
      rw [hn, List.getElem?_append_right (by rw [pairs_length]; omega), pairs_length, List.getElem?_replicate, if_pos (by omega)]
/-- Lists that agree with a dictionary's items. -/
theorem dItems_ext (l : List O) (ps : List (O × O)) (room : Nat) (h : ps.length ≤ room) (hl : l.length = 2 * room + 1)
    (he : ∀ j, j < 2 * room + 1 → l[j]? = some (if j = 0 then numO ps.length else match ps[(j - 1) / 2]? with | none => nullO | some p => if j % 2 = 1 then p.1 else p.2)) : l = dItems ps room := by
  apply List.ext_getElem?
  intro j
  by_cases hj : j < 2 * room + 1
  · rw [he j hj, dItems_at ps room h j hj]
  · rw [List.getElem?_eq_none (by omega), List.getElem?_eq_none (by rw [dItems_length ps room h]; omega)]
theorem dItems_set (ps : List (O × O)) (room i : Nat) (h : ps.length ≤ room) (k v w : O) (hi : ps[i]? = some (k, w)) : (dItems ps room).set (2 * i + 2) v = dItems (ps.set i (k, v)) room := by
  have hlt : i < ps.length := (List.getElem?_eq_some_iff.1 hi).1
  refine dItems_ext _ _ _ (by simpa using h) (by simp [dItems_length ps room h]) fun j hj => ?_
  rw [List.getElem?_set, dItems_length ps room h]
  by_cases e : 2 * i + 2 = j
  · subst e
    rw [if_pos rfl, if_pos hj, if_neg (by omega), show (2 * i + 2 - 1) / 2 = i by omega]
    simp [hlt]
  · rw [if_neg e, dItems_at ps room h j hj]
    simp only [List.length_set]
    by_cases e0 : j = 0
    · rw [if_pos e0, if_pos e0]
    · rw [if_neg e0, if_neg e0, List.getElem?_set]
      by_cases e1 : i = (j - 1) / 2
      · rw [if_pos e1, if_pos (by omega), ← e1, hi]
        have : j % 2 = 1 := by omega
        simp [this]
      · rw [if_neg e1]
theorem dItems_push (ps : List (O × O)) (room : Nat) (h : ps.length < room) (k v : O) : (((dItems ps room).set (2 * ps.length + 1) k).set (2 * ps.length + 2) v).set 0 (numO (ps.length + 1 : Int)) = dItems (ps ++ [(k, v)]) room := by
  refine dItems_ext _ _ _ (by simp; omega) (by simp [dItems_length ps room (by omega)]) fun j hj => ?_
  rw [List.getElem?_set, List.getElem?_set, List.getElem?_set]
  simp only [List.length_set, dItems_length ps room (by omega)]
  by_cases e0 : 0 = j
  · subst e0; simp
  rw [if_neg e0, if_neg (show ¬ j = 0 by omega)]
  by_cases e1 : 2 * ps.length + 2 = j
  · rw [if_pos e1, if_pos (by omega), show (j - 1) / 2 = ps.length by omega]
    have : ¬ j % 2 = 1 := by omega
    simp [this]
  rw [if_neg e1]
  by_cases e2 : 2 * ps.length + 1 = j
  · rw [if_pos e2, if_pos (by omega), show (j - 1) / 2 = ps.length by omega]
    have : j % 2 = 1 := by omega
    simp [this]
  rw [if_neg e2, dItems_at ps room (by omega) j hj, if_neg (show ¬ j = 0 by omega)]
  by_cases hlt : (j - 1) / 2 < ps.length
  · rw [List.getElem?_append_left hlt]
  · rw [List.getElem?_eq_none (by omega), List.getElem?_eq_none (by simp; omega)]
/-- What Drop moves: places 2 a + 1 to i are done. -/
def dropped (ps : List (O × O)) (room a i : Nat) : List O :=
  (List.range (2 * room + 1)).map fun j => if j = 0 then numO ((ps.length : Int) - 1) else if 2 * a + 1 ≤ j ∧ j < i then (if j + 2 ≤ 2 * ps.length then (dItems ps room).getD (j + 2) O.nil else nullO) else (dItems ps room).getD j O.nil
theorem dropped_length (ps : List (O × O)) (room a i : Nat) : (dropped ps room a i).length = 2 * room + 1 := by simp [dropped]
theorem dropped_at (ps : List (O × O)) (room a i j : Nat) (hj : j < 2 * room + 1) :
    (dropped ps room a i)[j]? = some (if j = 0 then numO ((ps.length : Int) - 1) else if 2 * a + 1 ≤ j ∧ j < i then (if j + 2 ≤ 2 * ps.length then (dItems ps room).getD (j + 2) O.nil else nullO) else (dItems ps room).getD j O.nil) := by
  simp [dropped, hj]
theorem dropped_start (ps : List (O × O)) (room a : Nat) (h : ps.length ≤ room) : (dItems ps room).set 0 (numO ((ps.length : Int) - 1)) = dropped ps room a (2 * a + 1) := by
  apply List.ext_getElem?
  intro j
  by_cases hj : j < 2 * room + 1
  · rw [dropped_at _ _ _ _ _ hj, List.getElem?_set, dItems_length ps room h]
    by_cases e : 0 = j
    · rw [if_pos e, if_pos (by omega), if_pos e.symm]
    · rw [if_neg e, if_neg (by omega), if_neg (by omega), dItems_at ps room h j hj]
      rw [List.getD_eq_getElem?_getD, dItems_at ps room h j hj]; rfl
  · rw [List.getElem?_eq_none (by simp [dItems_length ps room h]; omega), List.getElem?_eq_none (by rw [dropped_length]; omega)]
theorem dropped_step (ps : List (O × O)) (room a i : Nat) (h : ps.length ≤ room) (hi : 2 * a + 1 ≤ i) (_hi' : i ≤ 2 * ps.length) (x : O)
    (hx : x = if i + 2 ≤ 2 * ps.length then (dropped ps room a i).getD (i + 2) O.nil else nullO) : (dropped ps room a i).set i x = dropped ps room a (i + 1) := by
  apply List.ext_getElem?
  intro j
  by_cases hj : j < 2 * room + 1
  · rw [dropped_at _ _ _ _ _ hj, List.getElem?_set, dropped_length]
    by_cases e : i = j
    · subst e
      rw [if_pos rfl, if_pos hj, if_neg (by omega), if_pos (by omega), hx]
      by_cases e2 : i + 2 ≤ 2 * ps.length
      · rw [if_pos e2, if_pos e2, List.getD_eq_getElem?_getD, dropped_at _ _ _ _ _ (by omega), if_neg (by omega), if_neg (by omega)]; rfl
      · rw [if_neg e2, if_neg e2]
    · rw [if_neg e, dropped_at _ _ _ _ _ hj]
      by_cases e0 : j = 0
      · rw [if_pos e0, if_pos e0]
      · rw [if_neg e0, if_neg e0]
        by_cases e1 : 2 * a + 1 ≤ j ∧ j < i
        · simp only [if_pos e1, if_pos (show 2 * a + 1 ≤ j ∧ j < i + 1 by omega)]
        · simp only [if_neg e1, if_neg (show ¬ (2 * a + 1 ≤ j ∧ j < i + 1) by omega)]
  · rw [List.getElem?_eq_none (by rw [List.length_set, dropped_length]; omega), List.getElem?_eq_none (by rw [dropped_length]; omega)]
theorem dropped_end (ps : List (O × O)) (room a : Nat) (h : ps.length ≤ room) (ha : a < ps.length) : dropped ps room a (2 * ps.length + 1) = dItems (ps.eraseIdx a) room := by
  have hl : (ps.eraseIdx a).length = ps.length - 1 := by simp [List.length_eraseIdx, ha]
  refine dItems_ext _ _ _ (by omega) (dropped_length ..) fun j hj => ?_
  rw [dropped_at _ _ _ _ _ hj]
  by_cases e0 : j = 0
  · rw [if_pos e0, if_pos e0, hl]
    congr 2; omega
  rw [if_neg e0, if_neg e0]
  by_cases e1 : 2 * a + 1 ≤ j ∧ j < 2 * ps.length + 1
  · by_cases e2 : j + 2 ≤ 2 * ps.length
    · simp only [if_pos e1, if_pos e2]
      rw [List.getElem?_eraseIdx, if_neg (by omega), List.getD_eq_getElem?_getD, dItems_at ps room h _ (by omega), if_neg (by omega), show (j + 2 - 1) / 2 = (j - 1) / 2 + 1 by omega, show (j + 2) % 2 = j % 2 by omega]; rfl
    · simp only [if_pos e1, if_neg e2]
      rw [List.getElem?_eq_none (by omega)]
  · rw [if_neg e1, List.getD_eq_getElem?_getD, dItems_at ps room h j hj, if_neg e0, List.getElem?_eraseIdx]
    by_cases e2 : (j - 1) / 2 < a
    · rw [if_pos e2]; rfl
    · rw [if_neg e2, List.getElem?_eq_none (show ps.length ≤ (j - 1) / 2 by omega), List.getElem?_eq_none (by omega)]; rfl
end Go.Proofs.Ytaagobmnogmofaa
/- What the heap's methods answer at a dictionary; Size and May on a heap that a law made. -/
namespace Go.Proofs.Ytaagobmnogmofaa
open Go.RowKit

/-- A cell that is a dictionary's, at place N. -/
structure DicAt (L : List C) (N : Nat) (c : C) : Prop where
  cell : L[N]? = some c
  text : c.text = false
  dict : c.dict = true
  free : c.locked = c.locked
  room : c.items.length ≤ 40000
  place : N ≤ 40000
theorem DicAt.size {L : List C} {N : Nat} {c : C} (D : DicAt L N c) : c.size = c.items.length := by simp [C.size, D.text]
theorem DicAt.kind {L : List C} {N : Nat} {c : C} (D : DicAt L N c) : c.kind = 10 := by simp [C.kind, D.text, D.dict]
theorem DicAt.lt {L : List C} {N : Nat} {c : C} (D : DicAt L N c) : N < L.length := (List.getElem?_eq_some_iff.1 D.cell).1
theorem DicAt.may {L : List C} {N : Nat} {c : C} (D : DicAt L N c) : mayH L (dicO N) = true := by
  have h1 := D.cell
  have h2 := D.lt
  have h3 := D.place
  have h4 := D.kind
  simp [mayH, held, mayO, eqO, bareO, O.nil, h1, h4]
  omega
theorem DicAt.find {L : List C} {N : Nat} {c : C} (D : DicAt L N c) : findE L (dicO N) = 0 := by
  have := D.may
  simp [findE, this, held]
theorem DicAt.sizeOf {L : List C} {N : Nat} {c : C} (D : DicAt L N c) : sizeH L (dicO N) = ((c.items.length : Int), 0) := by
  have h1 := D.cell
  have h2 := D.size
  unfold sizeH
  rw [D.find]
  simp [h1, lenOf, h2]
theorem DicAt.get {L : List C} {N : Nat} {c : C} (D : DicAt L N c) (i : Int) (h0 : 0 ≤ i) (x : O) (hx : c.items[i.toNat]? = some x) : getH L (dicO N) i = (x, 0) := by
  have h1 := D.cell
  have h2 := D.size
  have h3 := D.text
  have hl := (List.getElem?_eq_some_iff.1 hx).1
  unfold getH
  rw [D.find]
  simp only [ne_eq, not_true_eq_false, if_false, Int.toNat_natCast, h1, lenOf, if_true, h2, h3, atOf, Int.zero_add, Bool.false_eq_true]
  rw [if_neg (by omega), List.getD_eq_getElem?_getD, hx]; rfl
theorem DicAt.set {L : List C} {N : Nat} {c : C} (D : DicAt L N c) (i : Int) (h0 : 0 ≤ i) (h1 : i < c.items.length) (x : O) (hx : mayH L x = true) (e4 : c.locked = false := by rfl) :
    setH L (dicO N) i x = (L.set N { c with items := c.items.set i.toNat x }, 0) := by
  have e1 := D.cell
  have e2 := D.size
  have e3 := D.text
  unfold setH
  rw [D.find]
  simp only [ne_eq, not_true_eq_false, if_false, Int.toNat_natCast, e1, lenOf, if_true, e2, e3, e4, atOf, Int.zero_add, Bool.false_eq_true, hx, Bool.true_eq_false]
  rw [if_neg (by omega)]
theorem DicAt.items {L : List C} {N : Nat} {c : C} (D : DicAt L N c) : itemsH L (dicO N) = (c.items, 0) := by
  have e1 := D.cell
  have e2 := D.size
  have e3 := D.text
  unfold itemsH
  rw [D.find]
  simp [e1, lenOf, e2, e3, atOf]
/-- A cell that is put in its place. -/
theorem DicAt.put {L : List C} {N : Nat} {c : C} (D : DicAt L N c) (c' : C) (h1 : c'.text = false) (h2 : c'.dict = true) (h3 : c'.locked = c'.locked) (h4 : c'.items.length = c.items.length) : DicAt (L.set N c') N c' :=
  ⟨by rw [List.getElem?_set, if_pos rfl, if_pos D.lt], h1, h2, h3, by rw [h4]; exact D.room, D.place⟩
theorem may_put (L : List C) (N : Nat) (c c' : C) (hc : L[N]? = some c) (hk : c'.kind = c.kind) (hs : c'.size = c.size) (o : O) : mayH (L.set N c') o = mayH L o := by
  unfold mayH
  congr 2
  simp only [List.length_set, List.getElem?_set]
  by_cases e : N = o.n.toNat
  · have hl := (List.getElem?_eq_some_iff.1 hc).1
    rw [if_pos e, if_pos hl, ← e, hc]; simp only [hk, hs]
  · rw [if_neg e]
theorem set_set_same (L : List C) (N : Nat) (c c' : C) : (L.set N c).set N c' = L.set N c' := by simp

end Go.Proofs.Ytaagobmnogmofaa
/- obj.Same and what it calls. -/
namespace Go.Proofs.Ytaagobmnogmofaa
open Go.RowKit

/-- What a number stands for. -/
def sizeO (o : O) : Int × Bool := if mayO o = false then (0, false) else if o.kind = 3 then (o.n * 65536, true) else if o.kind = 4 then (o.n, true) else (0, false)
def unO (o : O) : O := ⟨o.kind, false, o.n, o.pos, o.len, o.s⟩
def sameO (a b : O) : Bool := if (sizeO a).2 = true ∧ (sizeO b).2 = true then decide ((sizeO a).1 = (sizeO b).1) else eqO (unO a) (unO b)
theorem sizeO_num (o : O) (h : (sizeO o).2 = true) : o.kind = 3 ∨ o.kind = 4 := by
  unfold sizeO at h
  split at h
  · simp at h
  · split at h
    · left; assumption
    · split at h
      · right; assumption
      · simp at h
/-- What is not even alike is not the same. -/
theorem same_not (x k : O) (h1 : ¬ (x.kind = k.kind ∧ x.s = k.s)) (h2 : ¬ k.kind = 3) (h3 : ¬ k.kind = 4) : sameO x k = false := by
  unfold sameO
  rw [if_neg (fun h => (sizeO_num k h.2).elim h2 h3)]
  refine eqO_ne fun e => h1 ?_
  simp only [unO, O.mk.injEq] at e
  exact ⟨e.1, e.2.2.2.2.2⟩
/-- The key that an object stands for. -/
def keyD (L : List C) (o : O) : O × Int :=
  if o.kind = 1 then (O.nil, 6) else if mayH L o = false then (O.nil, 1) else if o.kind = 8 then
    if 100 < ((bytesH L o).1.size : Int) then (O.nil, 5) else (⟨5, false, 0, 0, 0, (bytesH L o).1⟩, 0)
  else (unO o, 0)
/-- The place of a key's pair. -/
def PlaceS (ps : List (O × O)) (k : O) (i : Nat) (b : Bool) : Prop :=
  (b = true ∧ (∃ p, ps[i]? = some p ∧ sameO p.1 k = true) ∧ ∀ (j : Nat) (p : O × O), j < i → ps[j]? = some p → sameO p.1 k = false) ∨ (b = false ∧ i = 0 ∧ ∀ (j : Nat) (p : O × O), ps[j]? = some p → sameO p.1 k = false)
end Go.Proofs.Ytaagobmnogmofaa
/- Walk: obj.size, numbers, Same. -/
namespace Go.Proofs.Ytaagobmnogmofaa
open Go.RowKit

theorem mayO_int (o : O) (h : mayO o = true) (hk : o.kind = 3) : -2147483647 ≤ o.n ∧ o.n ≤ 2147483647 := by
  obtain ⟨k, ex, n, p, le, s⟩ := o
  simp only at hk; subst hk
  simp [mayO] at h
  exact h.2

end Go.Proofs.Ytaagobmnogmofaa
/- dict.Key, open, place, on a heap that a law made. -/
namespace Go.Proofs.Ytaagobmnogmofaa
open Go.RowKit

/-- Some boxes are written somehow, and forgotten. -/
theorem Ats.loses {w0 w w' : World} {M : List (Nat × List C)} {K K1 : List (Nat × Obj)} (A : Ats w0 w M (K1 ++ K)) (X : Chg (· ∈ K1.map Prod.fst) w w') : Ats w0 w' M K := by
  obtain ⟨h, h1, H, X0, D, F, k, n⟩ := A
  have kk : ∀ b ∈ K1.map Prod.fst, b ∉ h.flatMap HS.foot ∧ w0.heap.size ≤ b := fun b hb => by
    obtain ⟨q, hq, rfl⟩ := List.mem_map.1 hb
    exact (k q (List.mem_append_left _ hq)).2
  rw [List.map_append, List.nodup_append] at n
  exact ⟨h, h1, fun x hx => (H x hx).chg X fun c hc e => (kk c e).1 (List.mem_flatMap.2 ⟨x, hx, hc⟩), X0.trans' X (fun i hi e => by have := (kk i e).2; omega), D, F,
    fun q hq => ⟨X.blk (k q (List.mem_append_right _ hq)).1 (fun e => n.2.2 _ e _ (List.mem_map.2 ⟨q, hq, rfl⟩) rfl), (k q (List.mem_append_right _ hq)).2⟩, n.2.1⟩
theorem Chg.at {S : Nat → Prop} {a w : World} {b : Nat} (hb : S b) (h : Chg S a w) (i : Nat) (u : Value) : Chg S a (w.setCell ⟨b, i, none⟩ u) := h.setCell (p := ⟨b, i, none⟩) (.inl hb) u
end Go.Proofs.Ytaagobmnogmofaa
/- dict.place (few pairs) and look, on a heap that a law made. -/
namespace Go.Proofs.Ytaagobmnogmofaa
open Go.RowKit

theorem beq_bytes (s t : ByteArray) : (s.toList == t.toList) = decide (s = t) := bytes_toList_eq s t

end Go.Proofs.Ytaagobmnogmofaa
/- dict.look, on a heap that a law made. -/
namespace Go.Proofs.Ytaagobmnogmofaa
open Go.RowKit

abbrev foundC (key : O) (at' n room : Int) (there : Bool) : Array Value := #[.int .i64 key.kind, .bool key.exec, .int .i64 key.n, .int .i64 key.pos, .int .i64 key.len, .string key.s, .int .i64 at', .int .i64 n, .int .i64 room, .bool there]

end Go.Proofs.Ytaagobmnogmofaa
