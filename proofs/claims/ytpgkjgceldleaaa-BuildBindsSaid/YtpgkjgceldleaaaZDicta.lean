/- Dpl, Dpm, Dob, Dos, Dk, Dl, Dm -/
import Derived.Test.YtpgkjgceldleaaaZHeapd
/- A dictionary's cell as plain data: what the heap's methods answer at it. -/
namespace Go.Proofs.Ytpgkjgceldleaaa
open Go.RowKit

abbrev numO (v : Int) : O := ⟨3, false, v, 0, 0, ⟨#[]⟩⟩
abbrev dicO (N : Int) : O := ⟨10, false, N, 0, 0, ⟨#[]⟩⟩
def pairsL (ps : List (O × O)) : List O := ps.flatMap fun p => [p.1, p.2]
theorem pairs_length : ∀ ps : List (O × O), (pairsL ps).length = 2 * ps.length
  | [] => rfl
  | p :: ps => by
    have := pairs_length ps
    simp only [pairsL, List.flatMap_cons, List.length_append, List.length_cons, List.length_nil] at this ⊢
    omega
theorem pairs_key : ∀ (ps : List (O × O)) (i : Nat), (pairsL ps)[2 * i]? = (ps[i]?).map Prod.fst
  | [], i => by simp [pairsL]
  | p :: ps, 0 => by simp [pairsL]
  | p :: ps, i + 1 => by
    have := pairs_key ps i
    rw [show 2 * (i + 1) = 2 * i + 2 by omega]
    simpa [pairsL] using this
theorem pairs_val : ∀ (ps : List (O × O)) (i : Nat), (pairsL ps)[2 * i + 1]? = (ps[i]?).map Prod.snd
  | [], i => by simp [pairsL]
  | p :: ps, 0 => by simp [pairsL]
  | p :: ps, i + 1 => by
    have := pairs_val ps i
    rw [show 2 * (i + 1) + 1 = 2 * i + 1 + 2 by omega]
    simpa [pairsL] using this
/-- The items of a dictionary with room for so many pairs. -/
def dItems (ps : List (O × O)) (room : Nat) : List O := numO ps.length :: (pairsL ps ++ List.replicate (2 * (room - ps.length)) nullO)
/-- A dictionary's cell: locked, or not. -/
abbrev dcellk (lk : Bool) (ps : List (O × O)) (room : Nat) : C := ⟨false, true, lk, dItems ps room, []⟩
abbrev dcell (ps : List (O × O)) (room : Nat) : C := dcellk false ps room
theorem dItems_length (ps : List (O × O)) (room : Nat) (h : ps.length ≤ room) : (dItems ps room).length = 2 * room + 1 := by
  simp [dItems, pairs_length]; omega
/-- Item number j. -/
theorem dItems_at (ps : List (O × O)) (room : Nat) (h : ps.length ≤ room) (j : Nat) (hj : j < 2 * room + 1) :
    (dItems ps room)[j]? = some (if j = 0 then numO ps.length else match ps[(j - 1) / 2]? with | none => nullO | some p => if j % 2 = 1 then p.1 else p.2) := by
  cases j with
  | zero => simp [dItems]
  | succ j =>
    rw [if_neg (by omega)]
    simp only [dItems, List.getElem?_cons_succ, Nat.add_sub_cancel]
    obtain ⟨q, hq⟩ : ∃ q, j = 2 * q ∨ j = 2 * q + 1 := ⟨j / 2, by omega⟩
    by_cases hl : q < ps.length
    · rw [List.getElem?_append_left (by rw [pairs_length]; omega)]
      rcases hq with rfl | rfl
      · rw [pairs_key, show 2 * q / 2 = q by omega, List.getElem?_eq_getElem hl]
        have em : (2 * q + 1) % 2 = 1 := by omega
        simp [em]
      · rw [pairs_val, show (2 * q + 1) / 2 = q by omega, List.getElem?_eq_getElem hl]
        have em : ¬ (2 * q + 1 + 1) % 2 = 1 := by omega
        simp [em]
    · have hn : ps[j / 2]? = none := List.getElem?_eq_none (by omega)
      rw [hn, List.getElem?_append_right (by rw [pairs_length]; omega), pairs_length, List.getElem?_replicate, if_pos (by omega)]
/-- Lists that agree with a dictionary's items. -/
theorem dItems_ext (l : List O) (ps : List (O × O)) (room : Nat) (h : ps.length ≤ room) (hl : l.length = 2 * room + 1)
    (he : ∀ j, j < 2 * room + 1 → l[j]? = some (if j = 0 then numO ps.length else match ps[(j - 1) / 2]? with | none => nullO | some p => if j % 2 = 1 then p.1 else p.2)) : l = dItems ps room := by
  apply List.ext_getElem?
  intro j
  by_cases hj : j < 2 * room + 1
  · rw [he j hj, dItems_at ps room h j hj]
  · rw [List.getElem?_eq_none (by omega), List.getElem?_eq_none (by rw [dItems_length ps room h]; omega)]
theorem dItems_set (ps : List (O × O)) (room i : Nat) (h : ps.length ≤ room) (k v w : O) (hi : ps[i]? = some (k, w)) : (dItems ps room).set (2 * i + 2) v = dItems (ps.set i (k, v)) room := by
  have hlt : i < ps.length := (List.getElem?_eq_some_iff.1 hi).1
  refine dItems_ext _ _ _ (by simpa using h) (by simp [dItems_length ps room h]) fun j hj => ?_
  rw [List.getElem?_set, dItems_length ps room h]
  by_cases e : 2 * i + 2 = j
  · subst e
    rw [if_pos rfl, if_pos hj, if_neg (by omega), show (2 * i + 2 - 1) / 2 = i by omega]
    simp [hlt]
  · rw [if_neg e, dItems_at ps room h j hj]
    simp only [List.length_set]
    by_cases e0 : j = 0
    · rw [if_pos e0, if_pos e0]
    · rw [if_neg e0, if_neg e0, List.getElem?_set]
      by_cases e1 : i = (j - 1) / 2
      · rw [if_pos e1, if_pos (by omega), ← e1, hi]
        have : j % 2 = 1 := by omega
        simp [this]
      · rw [if_neg e1]
theorem dItems_push (ps : List (O × O)) (room : Nat) (h : ps.length < room) (k v : O) : (((dItems ps room).set (2 * ps.length + 1) k).set (2 * ps.length + 2) v).set 0 (numO (ps.length + 1 : Int)) = dItems (ps ++ [(k, v)]) room := by
  refine dItems_ext _ _ _ (by simp; omega) (by simp [dItems_length ps room (by omega)]) fun j hj => ?_
  rw [List.getElem?_set, List.getElem?_set, List.getElem?_set]
  simp only [List.length_set, dItems_length ps room (by omega)]
  by_cases e0 : 0 = j
  · subst e0; simp
  rw [if_neg e0, if_neg (show ¬ j = 0 by omega)]
  by_cases e1 : 2 * ps.length + 2 = j
  · rw [if_pos e1, if_pos (by omega), show (j - 1) / 2 = ps.length by omega]
    have : ¬ j % 2 = 1 := by omega
    simp [this]
  rw [if_neg e1]
  by_cases e2 : 2 * ps.length + 1 = j
  · rw [if_pos e2, if_pos (by omega), show (j - 1) / 2 = ps.length by omega]
    have : j % 2 = 1 := by omega
    simp [this]
  rw [if_neg e2, dItems_at ps room (by omega) j hj, if_neg (show ¬ j = 0 by omega)]
  by_cases hlt : (j - 1) / 2 < ps.length
  · rw [List.getElem?_append_left hlt]
  · rw [List.getElem?_eq_none (by omega), List.getElem?_eq_none (by simp; omega)]
/-- What Drop moves: places 2 a + 1 to i are done. -/
def dropped (ps : List (O × O)) (room a i : Nat) : List O :=
  (List.range (2 * room + 1)).map fun j => if j = 0 then numO ((ps.length : Int) - 1) else if 2 * a + 1 ≤ j ∧ j < i then (if j + 2 ≤ 2 * ps.length then (dItems ps room).getD (j + 2) O.nil else nullO) else (dItems ps room).getD j O.nil
theorem dropped_length (ps : List (O × O)) (room a i : Nat) : (dropped ps room a i).length = 2 * room + 1 := by simp [dropped]
theorem dropped_at (ps : List (O × O)) (room a i j : Nat) (hj : j < 2 * room + 1) :
    (dropped ps room a i)[j]? = some (if j = 0 then numO ((ps.length : Int) - 1) else if 2 * a + 1 ≤ j ∧ j < i then (if j + 2 ≤ 2 * ps.length then (dItems ps room).getD (j + 2) O.nil else nullO) else (dItems ps room).getD j O.nil) := by
  simp [dropped, hj]
theorem dropped_start (ps : List (O × O)) (room a : Nat) (h : ps.length ≤ room) : (dItems ps room).set 0 (numO ((ps.length : Int) - 1)) = dropped ps room a (2 * a + 1) := by
  apply List.ext_getElem?
  intro j
  by_cases hj : j < 2 * room + 1
  · rw [dropped_at _ _ _ _ _ hj, List.getElem?_set, dItems_length ps room h]
    by_cases e : 0 = j
    · rw [if_pos e, if_pos (by omega), if_pos e.symm]
    · rw [if_neg e, if_neg (by omega), if_neg (by omega), dItems_at ps room h j hj]
      rw [List.getD_eq_getElem?_getD, dItems_at ps room h j hj]; rfl
  · rw [List.getElem?_eq_none (by simp [dItems_length ps room h]; omega), List.getElem?_eq_none (by rw [dropped_length]; omega)]
theorem dropped_step (ps : List (O × O)) (room a i : Nat) (h : ps.length ≤ room) (hi : 2 * a + 1 ≤ i) (_hi' : i ≤ 2 * ps.length) (x : O)
    (hx : x = if i + 2 ≤ 2 * ps.length then (dropped ps room a i).getD (i + 2) O.nil else nullO) : (dropped ps room a i).set i x = dropped ps room a (i + 1) := by
  apply List.ext_getElem?
  intro j
  by_cases hj : j < 2 * room + 1
  · rw [dropped_at _ _ _ _ _ hj, List.getElem?_set, dropped_length]
    by_cases e : i = j
    · subst e
      rw [if_pos rfl, if_pos hj, if_neg (by omega), if_pos (by omega), hx]
      by_cases e2 : i + 2 ≤ 2 * ps.length
      · rw [if_pos e2, if_pos e2, List.getD_eq_getElem?_getD, dropped_at _ _ _ _ _ (by omega), if_neg (by omega), if_neg (by omega)]; rfl
      · rw [if_neg e2, if_neg e2]
    · rw [if_neg e, dropped_at _ _ _ _ _ hj]
      by_cases e0 : j = 0
      · rw [if_pos e0, if_pos e0]
      · rw [if_neg e0, if_neg e0]
        by_cases e1 : 2 * a + 1 ≤ j ∧ j < i
        · simp only [if_pos e1, if_pos (show 2 * a + 1 ≤ j ∧ j < i + 1 by omega)]
        · simp only [if_neg e1, if_neg (show ¬ (2 * a + 1 ≤ j ∧ j < i + 1) by omega)]
  · rw [List.getElem?_eq_none (by rw [List.length_set, dropped_length]; omega), List.getElem?_eq_none (by rw [dropped_length]; omega)]
theorem dropped_end (ps : List (O × O)) (room a : Nat) (h : ps.length ≤ room) (ha : a < ps.length) : dropped ps room a (2 * ps.length + 1) = dItems (ps.eraseIdx a) room := by
  have hl : (ps.eraseIdx a).length = ps.length - 1 := by simp [List.length_eraseIdx, ha]
  refine dItems_ext _ _ _ (by omega) (dropped_length ..) fun j hj => ?_
  rw [dropped_at _ _ _ _ _ hj]
  by_cases e0 : j = 0
  · rw [if_pos e0, if_pos e0, hl]
    congr 2; omega
  rw [if_neg e0, if_neg e0]
  by_cases e1 : 2 * a + 1 ≤ j ∧ j < 2 * ps.length + 1
  · by_cases e2 : j + 2 ≤ 2 * ps.length
    · simp only [if_pos e1, if_pos e2]
      rw [List.getElem?_eraseIdx, if_neg (by omega), List.getD_eq_getElem?_getD, dItems_at ps room h _ (by omega), if_neg (by omega), show (j + 2 - 1) / 2 = (j - 1) / 2 + 1 by omega, show (j + 2) % 2 = j % 2 by omega]; rfl
    · simp only [if_pos e1, if_neg e2]
      rw [List.getElem?_eq_none (by omega)]
  · rw [if_neg e1, List.getD_eq_getElem?_getD, dItems_at ps room h j hj, if_neg e0, List.getElem?_eraseIdx]
    by_cases e2 : (j - 1) / 2 < a
    · rw [if_pos e2]; rfl
    · rw [if_neg e2, List.getElem?_eq_none (show ps.length ≤ (j - 1) / 2 by omega), List.getElem?_eq_none (by omega)]; rfl
end Go.Proofs.Ytpgkjgceldleaaa
/- What the heap's methods answer at a dictionary; Size and May on a heap that a law made. -/
namespace Go.Proofs.Ytpgkjgceldleaaa
open Go.RowKit

/-- A cell that is a dictionary's, at place N. -/
structure DicAt (L : List C) (N : Nat) (c : C) : Prop where
  cell : L[N]? = some c
  text : c.text = false
  dict : c.dict = true
  free : c.locked = c.locked
  room : c.items.length ≤ 40000
  place : N ≤ 40000
theorem DicAt.size {L : List C} {N : Nat} {c : C} (D : DicAt L N c) : c.size = c.items.length := by simp [C.size, D.text]
theorem DicAt.kind {L : List C} {N : Nat} {c : C} (D : DicAt L N c) : c.kind = 10 := by simp [C.kind, D.text, D.dict]
theorem DicAt.lt {L : List C} {N : Nat} {c : C} (D : DicAt L N c) : N < L.length := (List.getElem?_eq_some_iff.1 D.cell).1
theorem DicAt.may {L : List C} {N : Nat} {c : C} (D : DicAt L N c) : mayH L (dicO N) = true := by
  have h1 := D.cell
  have h2 := D.lt
  have h3 := D.place
  have h4 := D.kind
  simp [mayH, held, mayO, eqO, bareO, O.nil, h1, h4]
  omega
theorem DicAt.find {L : List C} {N : Nat} {c : C} (D : DicAt L N c) : findE L (dicO N) = 0 := by
  have := D.may
  simp [findE, this, held]
theorem DicAt.sizeOf {L : List C} {N : Nat} {c : C} (D : DicAt L N c) : sizeH L (dicO N) = ((c.items.length : Int), 0) := by
  have h1 := D.cell
  have h2 := D.size
  unfold sizeH
  rw [D.find]
  simp [h1, lenOf, h2]
theorem DicAt.get {L : List C} {N : Nat} {c : C} (D : DicAt L N c) (i : Int) (h0 : 0 ≤ i) (x : O) (hx : c.items[i.toNat]? = some x) : getH L (dicO N) i = (x, 0) := by
  have h1 := D.cell
  have h2 := D.size
  have h3 := D.text
  have hl := (List.getElem?_eq_some_iff.1 hx).1
  unfold getH
  rw [D.find]
  simp only [ne_eq, not_true_eq_false, if_false, Int.toNat_natCast, h1, lenOf, if_true, h2, h3, atOf, Int.zero_add, Bool.false_eq_true]
  rw [if_neg (by omega), List.getD_eq_getElem?_getD, hx]; rfl
theorem DicAt.set {L : List C} {N : Nat} {c : C} (D : DicAt L N c) (i : Int) (h0 : 0 ≤ i) (h1 : i < c.items.length) (x : O) (hx : mayH L x = true) (e4 : c.locked = false := by rfl) :
    setH L (dicO N) i x = (L.set N { c with items := c.items.set i.toNat x }, 0) := by
  have e1 := D.cell
  have e2 := D.size
  have e3 := D.text
  unfold setH
  rw [D.find]
  simp only [ne_eq, not_true_eq_false, if_false, Int.toNat_natCast, e1, lenOf, if_true, e2, e3, e4, atOf, Int.zero_add, Bool.false_eq_true, hx, Bool.true_eq_false]
  rw [if_neg (by omega)]
theorem DicAt.items {L : List C} {N : Nat} {c : C} (D : DicAt L N c) : itemsH L (dicO N) = (c.items, 0) := by
  have e1 := D.cell
  have e2 := D.size
  have e3 := D.text
  unfold itemsH
  rw [D.find]
  simp [e1, lenOf, e2, e3, atOf]
/-- A cell that is put in its place. -/
theorem DicAt.put {L : List C} {N : Nat} {c : C} (D : DicAt L N c) (c' : C) (h1 : c'.text = false) (h2 : c'.dict = true) (h3 : c'.locked = c'.locked) (h4 : c'.items.length = c.items.length) : DicAt (L.set N c') N c' :=
  ⟨by rw [List.getElem?_set, if_pos rfl, if_pos D.lt], h1, h2, h3, by rw [h4]; exact D.room, D.place⟩
theorem may_put (L : List C) (N : Nat) (c c' : C) (hc : L[N]? = some c) (hk : c'.kind = c.kind) (hs : c'.size = c.size) (o : O) : mayH (L.set N c') o = mayH L o := by
  unfold mayH
  congr 2
  simp only [List.length_set, List.getElem?_set]
  by_cases e : N = o.n.toNat
  · have hl := (List.getElem?_eq_some_iff.1 hc).1
    rw [if_pos e, if_pos hl, ← e, hc]; simp only [hk, hs]
  · rw [if_neg e]
theorem set_set_same (L : List C) (N : Nat) (c c' : C) : (L.set N c).set N c' = L.set N c' := by simp

theorem at_size {w0 w : World} {hp : Nat} {L : List C} {M : List (Nat × List C)} {K : List (Nat × Obj)} (A : Ats w0 w M K) (o : O) {n e : Int} (hr : sizeH L o = (n, e)) (hm : (hp, L) ∈ M) :
    Calls Try.prog 84 #[ptr hp, o.val] w fun r w' => r = .returned (.tuple #[.int .i64 n, .int .i64 e]) ∧ Ats w0 w' M K :=
  A.asks hm fun h h1 h2 H => by subst h1 h2; have := hsize_any h o w H; rwa [hr] at this
end Go.Proofs.Ytpgkjgceldleaaa
/- obj.Same and what it calls. -/
namespace Go.Proofs.Ytpgkjgceldleaaa
open Go.RowKit

/-- What a number stands for. -/
def sizeO (o : O) : Int × Bool := if mayO o = false then (0, false) else if o.kind = 3 then (o.n * 65536, true) else if o.kind = 4 then (o.n, true) else (0, false)
def unO (o : O) : O := ⟨o.kind, false, o.n, o.pos, o.len, o.s⟩
def sameO (a b : O) : Bool := if (sizeO a).2 = true ∧ (sizeO b).2 = true then decide ((sizeO a).1 = (sizeO b).1) else eqO (unO a) (unO b)
theorem sizeO_num (o : O) (h : (sizeO o).2 = true) : o.kind = 3 ∨ o.kind = 4 := by
  unfold sizeO at h
  split at h
  · simp at h
  · split at h
    · left; assumption
    · split at h
      · right; assumption
      · simp at h
/-- What is not even alike is not the same. -/
theorem same_not (x k : O) (h1 : ¬ (x.kind = k.kind ∧ x.s = k.s)) (h2 : ¬ k.kind = 3) (h3 : ¬ k.kind = 4) : sameO x k = false := by
  unfold sameO
  rw [if_neg (fun h => (sizeO_num k h.2).elim h2 h3)]
  refine eqO_ne fun e => h1 ?_
  simp only [unO, O.mk.injEq] at e
  exact ⟨e.1, e.2.2.2.2.2⟩
/-- The key that an object stands for. -/
def keyD (L : List C) (o : O) : O × Int :=
  if o.kind = 1 then (O.nil, 6) else if mayH L o = false then (O.nil, 1) else if o.kind = 8 then
    if 100 < ((bytesH L o).1.size : Int) then (O.nil, 5) else (⟨5, false, 0, 0, 0, (bytesH L o).1⟩, 0)
  else (unO o, 0)
/-- The place of a key's pair. -/
def PlaceS (ps : List (O × O)) (k : O) (i : Nat) (b : Bool) : Prop :=
  (b = true ∧ (∃ p, ps[i]? = some p ∧ sameO p.1 k = true) ∧ ∀ (j : Nat) (p : O × O), j < i → ps[j]? = some p → sameO p.1 k = false) ∨ (b = false ∧ i = 0 ∧ ∀ (j : Nat) (p : O × O), ps[j]? = some p → sameO p.1 k = false)
end Go.Proofs.Ytpgkjgceldleaaa
/- Walk: obj.size, numbers, Same. -/
namespace Go.Proofs.Ytpgkjgceldleaaa
open Go.RowKit

theorem mayO_int (o : O) (h : mayO o = true) (hk : o.kind = 3) : -2147483647 ≤ o.n ∧ o.n ≤ 2147483647 := by
  obtain ⟨k, ex, n, p, le, s⟩ := o
  simp only at hk; subst hk
  simp [mayO] at h
  exact h.2

set_option maxRecDepth 100000 in
set_option maxHeartbeats 1000000 in
theorem osize_any (o : O) (w : World) : Calls Try.prog 97 #[o.val] w fun e w' => e = .returned (.tuple #[.int .i64 (sizeO o).1, .bool (sizeO o).2]) ∧ Chg NoB w w' := by
  have hi := mayO_int o
  have hr : sizeO o = if mayO o = false then (0, false) else if o.kind = 3 then (o.n * 65536, true) else if o.kind = 4 then (o.n, true) else (0, false) := rfl
  have HM := fun w' => may_any o w'
  obtain ⟨k, ex, n, p, le, s⟩ := o
  simp only at hi hr
  generalize mayO ⟨k, ex, n, p, le, s⟩ = b at *
  have HR := Hid.mk' hr
  clear hr
  have X1 := (Chg.refl NoB w).alloc (.cells #[.int .i64 k, .bool ex, .int .i64 n, .int .i64 p, .int .i64 le, .string s] 36)
  have hB := blk_new w (.cells #[.int .i64 k, .bool ex, .int .i64 n, .int .i64 p, .int .i64 le, .string s] 36)
  go_enter Try.func97, Try.ntmps97
  go_wp2_with fail
  refine (HM _).mono ?_
  rintro e w2 ⟨rfl, hb2⟩
  have R := cells_of (hb2.blk hB id)
  have XX := X1.pure hb2
  clear HM X1 hB hb2
  cases b with
  | false =>
    clear hi
    go_wp2
    go_ret2
    rw [HR.out]
    exact ⟨rfl, XX⟩
  | true =>
    by_cases h3 : k = 3
    · obtain ⟨hi1, hi2⟩ := hi rfl h3
      subst h3
      clear hi
      go_wp2
      go_ret2
      rw [HR.out]
      exact ⟨by simp, XX⟩
    · clear hi
      have b3 : (k == 3) = false := by simpa using h3
      by_cases h4 : k = 4
      · subst h4
        go_wp2
        go_ret2
        rw [HR.out]
        exact ⟨by simp, XX⟩
      · have b4 : (k == 4) = false := by simpa using h4
        go_wp2
        go_ret2
        rw [HR.out]
        exact ⟨by simp [h3, h4], XX⟩

set_option maxRecDepth 100000 in
set_option maxHeartbeats 1000000 in
theorem onumbers_any (a b : O) (w : World) : Calls Try.prog 91 #[a.val, b.val] w fun e w' => e = .returned (.tuple #[.int .i64 (sizeO a).1, .int .i64 (sizeO b).1, .bool ((sizeO a).2 && (sizeO b).2)]) ∧ Chg NoB w w' := by
  have HA := fun w' => osize_any a w'
  have HB := fun w' => osize_any b w'
  generalize sizeO a = sa at *
  generalize sizeO b = sb at *
  obtain ⟨x, p⟩ := sa
  obtain ⟨y, q⟩ := sb
  obtain ⟨k, ex, n, c, le, s⟩ := a
  obtain ⟨k', ex', n', c', le', s'⟩ := b
  simp only at HA HB
  have X1 := ((Chg.refl NoB w).alloc (.cells #[.int .i64 k, .bool ex, .int .i64 n, .int .i64 c, .int .i64 le, .string s] 36)).alloc (.cells #[.int .i64 k', .bool ex', .int .i64 n', .int .i64 c', .int .i64 le', .string s'] 36)
  have hB1 := blk_new1 w (.cells #[.int .i64 k, .bool ex, .int .i64 n, .int .i64 c, .int .i64 le, .string s] 36) (.cells #[.int .i64 k', .bool ex', .int .i64 n', .int .i64 c', .int .i64 le', .string s'] 36)
  go_enter Try.func91, Try.ntmps91
  go_wp2_with fail
  refine (HA _).mono ?_
  rintro e w2 ⟨rfl, hb2⟩
  have R1 := cells_of (hb2.blk hB1 id)
  have X2 := X1.pure hb2
  clear HA X1 hB1 hb2
  go_wp2_with fail
  refine (HB _).mono ?_
  rintro e w3 ⟨rfl, hb3⟩
  clear HB R1
  cases p
  all_goals
    go_wp2
    go_ret3
    exact ⟨by simp, X2.pure hb3⟩

set_option maxRecDepth 100000 in
set_option maxHeartbeats 2000000 in
theorem osame_any (a b : O) (w : World) : Calls Try.prog 85 #[a.val, b.val] w fun e w' => e = .returned (.bool (sameO a b)) ∧ Chg NoB w w' := by
  have HN := fun w' => onumbers_any a b w'
  have hr : sameO a b = if (sizeO a).2 = true ∧ (sizeO b).2 = true then decide ((sizeO a).1 = (sizeO b).1) else eqO (unO a) (unO b) := rfl
  generalize sizeO a = sa at *
  generalize sizeO b = sb at *
  obtain ⟨x, p⟩ := sa
  obtain ⟨y, q⟩ := sb
  obtain ⟨k, ex, n, c, le, s⟩ := a
  obtain ⟨k', ex', n', c', le', s'⟩ := b
  simp only [unO] at HN hr
  have HR := Hid.mk' hr
  clear hr
  have X1 := ((Chg.refl NoB w).alloc (.cells #[.int .i64 k, .bool ex, .int .i64 n, .int .i64 c, .int .i64 le, .string s] 36)).alloc (.cells #[.int .i64 k', .bool ex', .int .i64 n', .int .i64 c', .int .i64 le', .string s'] 36)
  have hB0 := blk_alloc (blk_new w (.cells #[.int .i64 k, .bool ex, .int .i64 n, .int .i64 c, .int .i64 le, .string s] 36)) (.cells #[.int .i64 k', .bool ex', .int .i64 n', .int .i64 c', .int .i64 le', .string s'] 36)
  have hB1 := blk_new1 w (.cells #[.int .i64 k, .bool ex, .int .i64 n, .int .i64 c, .int .i64 le, .string s] 36) (.cells #[.int .i64 k', .bool ex', .int .i64 n', .int .i64 c', .int .i64 le', .string s'] 36)
  go_enter Try.func85, Try.ntmps85
  go_wp2_with fail
  refine (HN _).mono ?_
  rintro e w2 ⟨rfl, hb2⟩
  have R0 := cells_of (hb2.blk hB0 id)
  have R1 := cells_of (hb2.blk hB1 id)
  have Z0 := free_of (hb2.blk hB0 id)
  have Z1 := free_of (hb2.blk hB1 id)
  have l0 := blk_lt (hb2.blk hB0 id)
  have l1 := blk_lt (hb2.blk hB1 id)
  have XX := X1.pure hb2
  clear HN X1 hB0 hB1 hb2
  by_cases hpq : p = true ∧ q = true
  · obtain ⟨rfl, rfl⟩ := hpq
    go_wp2
    go_ret
    rw [HR.out]
    exact ⟨by simp; rfl, XX⟩
  · have hb : (p && q) = false := by cases p <;> cases q <;> simp_all
    go_wp2
    go_ret
    rw [HR.out, if_neg hpq]
    refine ⟨rfl, ?_⟩
    (repeat' (first | with_reducible assumption | with_reducible refine Chg.alloc ?_ _ | with_reducible refine Chg.drew ?_ | with_reducible refine Chg.drewN ?_ _ | with_reducible refine Chg.setCell ?_ (Or.inr ?_) _ | exact Nat.le_refl _ | exact Nat.le_add_right _ _ | (simp; done) | (simp; omega)))
end Go.Proofs.Ytpgkjgceldleaaa
/- dict.Key, open, place, on a heap that a law made. -/
namespace Go.Proofs.Ytpgkjgceldleaaa
open Go.RowKit

/-- Some boxes are written somehow, and forgotten. -/
theorem Ats.loses {w0 w w' : World} {M : List (Nat × List C)} {K K1 : List (Nat × Obj)} (A : Ats w0 w M (K1 ++ K)) (X : Chg (· ∈ K1.map Prod.fst) w w') : Ats w0 w' M K := by
  obtain ⟨h, h1, H, X0, D, F, k, n⟩ := A
  have kk : ∀ b ∈ K1.map Prod.fst, b ∉ h.flatMap HS.foot ∧ w0.heap.size ≤ b := fun b hb => by
    obtain ⟨q, hq, rfl⟩ := List.mem_map.1 hb
    exact (k q (List.mem_append_left _ hq)).2
  rw [List.map_append, List.nodup_append] at n
  exact ⟨h, h1, fun x hx => (H x hx).chg X fun c hc e => (kk c e).1 (List.mem_flatMap.2 ⟨x, hx, hc⟩), X0.trans' X (fun i hi e => by have := (kk i e).2; omega), D, F,
    fun q hq => ⟨X.blk (k q (List.mem_append_right _ hq)).1 (fun e => n.2.2 _ e _ (List.mem_map.2 ⟨q, hq, rfl⟩) rfl), (k q (List.mem_append_right _ hq)).2⟩, n.2.1⟩
theorem Chg.at {S : Nat → Prop} {a w : World} {b : Nat} (hb : S b) (h : Chg S a w) (i : Nat) (u : Value) : Chg S a (w.setCell ⟨b, i, none⟩ u) := h.setCell (p := ⟨b, i, none⟩) (.inl hb) u
theorem at_same {w0 w : World} {M : List (Nat × List C)} {K : List (Nat × Obj)} (A : Ats w0 w M K) (a b : O) :
    Calls Try.prog 85 #[a.val, b.val] w fun r w' => r = .returned (.bool (sameO a b)) ∧ Ats w0 w' M K :=
  (osame_any a b w).mono fun _r _w' ⟨h1, h2⟩ => ⟨h1, A.pure h2⟩

set_option maxRecDepth 100000 in
set_option maxHeartbeats 4000000 in
theorem at_dkey {w0 w : World} {hp : Nat} {L : List C} {M : List (Nat × List C)} {K : List (Nat × Obj)} (A : Ats w0 w M K) (o : O) {key : O} {e : Int} (hr : keyD L o = (key, e)) (hm : (hp, L) ∈ M) :
    Calls Try.prog 53 #[ptr hp, o.val] w fun r w' => r = .returned (.tuple #[key.val, .int .i64 e]) ∧ Ats w0 w' M K := by
  obtain ⟨bs, hbs⟩ : ∃ b, bytesH L o = b := ⟨_, rfl⟩
  obtain ⟨by', be⟩ := bs
  have HMay := fun {w' : World} {K' : List (Nat × Obj)} (A' : Ats w0 w' M K') => at_may A' o (b := mayH L o) rfl hm
  have HByt := fun {w' : World} {K' : List (Nat × Obj)} (A' : Ats w0 w' M K') => at_bytes A' o hbs hm
  unfold keyD at hr
  rw [hbs] at hr
  obtain ⟨k, ex, n, p, le, s⟩ := o
  simp only [unO] at hr
  have A1 := (A.alloc (.cells #[.int .i64 k, .bool ex, .int .i64 n, .int .i64 p, .int .i64 le, .string s] 36)).alloc (.cells #[.int .i64 0, .bool false, .int .i64 0, .int .i64 0, .int .i64 0, .string ⟨#[]⟩] 36)
  simp only [World.size_alloc] at A1
  by_cases h1 : k = 1
  · rw [if_pos h1] at hr
    obtain ⟨rfl, rfl⟩ := Prod.mk.injEq .. ▸ hr
    subst h1
    go_enter Try.func53, Try.ntmps53
    go_wp2
    refine bodyPost_ret (v := .tuple #[O.nil.val, .int .i64 6]) (by simp [results, Try.results53, go_sem, O.nil]) rfl ⟨rfl, A.pure ?_⟩
    (repeat' (first | with_reducible assumption | with_reducible refine Chg.alloc ?_ _ | with_reducible refine Chg.drew ?_ | with_reducible refine Chg.drewN ?_ _ | with_reducible refine Chg.setCell ?_ (Or.inr ?_) _ | exact Nat.le_refl _ | exact Nat.le_add_right _ _ | (simp; done) | (simp; omega)))
    exact Chg.refl _ _
  rw [if_neg h1] at hr
  have b1 : (k == 1) = false := by simpa using h1
  by_cases h2 : mayH L ⟨k, ex, n, p, le, s⟩ = false
  · rw [if_pos h2] at hr
    obtain ⟨rfl, rfl⟩ := Prod.mk.injEq .. ▸ hr
    clear HByt
    go_enter Try.func53, Try.ntmps53
    go_wp2_with fail
    refine (HMay A1).mono ?_
    rintro e w2 ⟨rfl, A2⟩
    rw [h2]
    have R3 := cells_of (A2.box _ (List.mem_cons_of_mem _ (List.mem_cons_self ..)))
    have R4 := cells_of (A2.box _ (List.mem_cons_self ..))
    have Z4 := free_of (A2.box _ (List.mem_cons_self ..))
    have l4 := blk_lt (A2.box _ (List.mem_cons_self ..))
    simp only at l4
    clear HMay A1
    go_wp2
    refine bodyPost_ret (v := .tuple #[O.nil.val, .int .i64 1]) (by simp [results, Try.results53, go_sem, R4, cell_set_at, O.nil]) rfl ⟨rfl, A2.loses (K1 := [_, _]) ?_⟩
    (repeat' (first | with_reducible exact Chg.refl _ _ | with_reducible refine Chg.drewN ?_ _ | with_reducible refine Chg.drew ?_ | with_reducible refine Chg.alloc ?_ _ | with_reducible refine Chg.at (by simp) ?_ _ _))
  rw [if_neg h2] at hr
  have h3 : mayH L ⟨k, ex, n, p, le, s⟩ = true := by simpa using h2
  rw [h3] at HMay
  by_cases h8 : k = 8
  · rw [if_pos h8] at hr
    subst h8
    by_cases hl : 100 < (by'.size : Int)
    · rw [if_pos hl] at hr
      obtain ⟨rfl, rfl⟩ := Prod.mk.injEq .. ▸ hr
      go_enter Try.func53, Try.ntmps53
      go_wp2_with fail
      refine (HMay A1).mono ?_
      rintro e w2 ⟨rfl, A2⟩
      have R3 := cells_of (A2.box _ (List.mem_cons_of_mem _ (List.mem_cons_self ..)))
      go_wp2_with fail
      refine (HByt A2).mono ?_
      rintro e w3 ⟨rfl, A3⟩
      have R4 := cells_of (A3.box _ (List.mem_cons_self ..))
      have Z4 := free_of (A3.box _ (List.mem_cons_self ..))
      have l4 := blk_lt (A3.box _ (List.mem_cons_self ..))
      simp only at l4
      clear HMay HByt A1 A2 R3
      go_wp2
      refine bodyPost_ret (v := .tuple #[O.nil.val, .int .i64 5]) (by simp [results, Try.results53, go_sem, R4, cell_set_at, O.nil]) rfl ⟨rfl, A3.loses (K1 := [_, _]) ?_⟩
      (repeat' (first | with_reducible exact Chg.refl _ _ | with_reducible refine Chg.drewN ?_ _ | with_reducible refine Chg.drew ?_ | with_reducible refine Chg.alloc ?_ _ | with_reducible refine Chg.at (by simp) ?_ _ _))
    · rw [if_neg hl] at hr
      obtain ⟨rfl, rfl⟩ := Prod.mk.injEq .. ▸ hr
      go_enter Try.func53, Try.ntmps53
      go_wp2_with fail
      refine (HMay A1).mono ?_
      rintro e w2 ⟨rfl, A2⟩
      have R3 := cells_of (A2.box _ (List.mem_cons_of_mem _ (List.mem_cons_self ..)))
      go_wp2_with fail
      refine (HByt A2).mono ?_
      rintro e w3 ⟨rfl, A3⟩
      have R4 := cells_of (A3.box _ (List.mem_cons_self ..))
      have Z4 := free_of (A3.box _ (List.mem_cons_self ..))
      have l4 := blk_lt (A3.box _ (List.mem_cons_self ..))
      simp only at l4
      clear HMay HByt A1 A2 R3
      go_wp2
      refine bodyPost_ret (v := .tuple #[(⟨5, false, 0, 0, 0, by'⟩ : O).val, .int .i64 0]) (by simp [results, Try.results53, go_sem, R4, cell_set_at]) rfl ⟨rfl, A3.loses (K1 := [_, _]) ?_⟩
      (repeat' (first | with_reducible exact Chg.refl _ _ | with_reducible refine Chg.drewN ?_ _ | with_reducible refine Chg.drew ?_ | with_reducible refine Chg.alloc ?_ _ | with_reducible refine Chg.at (by simp) ?_ _ _))
  · rw [if_neg h8] at hr
    obtain ⟨rfl, rfl⟩ := Prod.mk.injEq .. ▸ hr
    have b8 : (k == 8) = false := by simpa using h8
    clear HByt
    go_enter Try.func53, Try.ntmps53
    go_wp2_with fail
    refine (HMay A1).mono ?_
    rintro e w2 ⟨rfl, A2⟩
    have R3 := cells_of (A2.box _ (List.mem_cons_of_mem _ (List.mem_cons_self ..)))
    have Z3 := free_of (A2.box _ (List.mem_cons_of_mem _ (List.mem_cons_self ..)))
    have R4 := cells_of (A2.box _ (List.mem_cons_self ..))
    have Z4 := free_of (A2.box _ (List.mem_cons_self ..))
    have l3 := blk_lt (A2.box _ (List.mem_cons_of_mem _ (List.mem_cons_self ..)))
    have l4 := blk_lt (A2.box _ (List.mem_cons_self ..))
    simp only at l3 l4
    clear HMay A1
    go_wp2
    refine bodyPost_ret (v := .tuple #[(⟨k, false, n, p, le, s⟩ : O).val, .int .i64 0]) (by simp [results, Try.results53, go_sem, R4, cell_set_at]) rfl ⟨rfl, A2.loses (K1 := [_, _]) ?_⟩
    (repeat' (first | with_reducible exact Chg.refl _ _ | with_reducible refine Chg.drewN ?_ _ | with_reducible refine Chg.drew ?_ | with_reducible refine Chg.alloc ?_ _ | with_reducible refine Chg.at (by simp) ?_ _ _))

set_option maxRecDepth 100000 in
set_option maxHeartbeats 4000000 in
theorem at_dopen {lk : Bool} {w0 w : World} {hp : Nat} {L : List C} {M : List (Nat × List C)} {K : List (Nat × Obj)} (A : Ats w0 w M K) (hm : (hp, L) ∈ M) (N : Nat) (ps : List (O × O)) (room : Nat) (D : DicAt L N (dcellk lk ps room)) (h : ps.length ≤ room) (hr : room ≤ 1000) :
    Calls Try.prog 72 #[ptr hp, (dicO N).val] w fun r w' => r = .returned (.tuple #[.int .i64 ps.length, .int .i64 room, .int .i64 0]) ∧ Ats w0 w' M K := by
  have e0 : (dcell ps room).items[(0 : Int).toNat]? = some (numO ps.length) := by simp [dItems]
  have S1 := D.sizeOf
  have S2 := D.get 0 (by omega) _ e0
  have e1 : ((dItems ps room).length : Int) = 2 * room + 1 := by rw [dItems_length ps room h]; omega
  simp only at S1
  rw [e1] at S1
  have e2 : IntKind.i64.wrap (2 * (room : Int) + 1 - 1) = 2 * room := by rw [IntWalk.i64_in _ (by omega)]; omega
  have e3 : wrap64 (2 * (room : Int) + 1 - 1) = 2 * room := by rw [IntWalk.wrap64_in _ (by omega)]; omega
  have hN := D.place
  have A1 := A.alloc (.cells #[.int .i64 10, .bool false, .int .i64 N, .int .i64 0, .int .i64 0, .string ⟨#[]⟩] 36)
  have M1 := D.may
  go_enter Try.func72, Try.ntmps72
  go_wp2_with fail
  refine (at_may A1 _ M1 hm).mono ?_
  rintro e w2 ⟨rfl, A2⟩
  have R2 := cells_of (A2.box _ (List.mem_cons_self ..))
  go_wp2_with fail
  refine (at_size A2 _ S1 hm).mono ?_
  rintro e w3 ⟨rfl, A3⟩
  have R3 := cells_of (A3.box _ (List.mem_cons_self ..))
  clear R2
  go_wp2_with fail
  refine (at_get A3 _ _ S2 hm).mono ?_
  rintro e w4 ⟨rfl, A4⟩
  clear R3 A1 A2 A3 S1 S2 M1
  go_wp2
  all_goals
    go_ret3
    refine ⟨?_, (A4.pure ((Chg.refl NoB w4).alloc _)).keep (List.sublist_cons_self _ _)⟩
    first
      | (simp; done)
      | (simp; omega)
end Go.Proofs.Ytpgkjgceldleaaa
/- dict.place (few pairs) and look, on a heap that a law made. -/
namespace Go.Proofs.Ytpgkjgceldleaaa
open Go.RowKit

theorem beq_bytes (s t : ByteArray) : (s.toList == t.toList) = decide (s = t) := bytes_toList_eq s t

set_option maxRecDepth 100000 in
set_option maxHeartbeats 8000000 in
theorem at_place {lk : Bool} {w0 w : World} {hp : Nat} {L : List C} {M : List (Nat × List C)} {K : List (Nat × Obj)} (A : Ats w0 w M K) (hm : (hp, L) ∈ M) (N : Nat) (ps : List (O × O)) (room : Nat) (D : DicAt L N (dcellk lk ps room)) (h : ps.length ≤ room) (hf : ps.length < 256) (q : O) (r : Nat) (b : Bool) (hp' : PlaceS ps q r b) :
    Calls Try.prog 73 #[ptr hp, (dicO N).val, .int .i64 ps.length, q.val] w fun e w' => e = .returned (.tuple #[.int .i64 r, .bool b]) ∧ Ats w0 w' M K := by
  obtain ⟨qk, qx, qn, qp, ql, qs⟩ := q
  have A1 := (A.alloc (.cells #[.int .i64 10, .bool false, .int .i64 N, .int .i64 0, .int .i64 0, .string ⟨#[]⟩] 36)).alloc (.cells #[.int .i64 qk, .bool qx, .int .i64 qn, .int .i64 qp, .int .i64 ql, .string qs] 36)
  simp only [World.size_alloc] at A1
  have hf' : (ps.length : Int) < 256 := by omega
  have HG : ∀ (j : Nat) (p : O × O), ps[j]? = some p → getH L (dicO N) (2 * (j : Int) + 1) = (p.1, 0) := fun j p hj => D.get _ (by omega) _ (by
    have hl := (List.getElem?_eq_some_iff.1 hj).1
    rw [show (2 * (j : Int) + 1).toNat = 2 * j + 1 by omega]
    rw [dItems_at ps room h _ (by omega), if_neg (by omega), show (2 * j + 1 - 1) / 2 = j by omega, hj]
    simp)
  have HGh := Hid.mk' HG
  clear HG
  have HP := Hid.mk' hp'
  clear hp'
  go_enter Try.func73, Try.ntmps73
  go_wp2_with fail
  generalize w.heap.size = b5 at *
  generalize (w.alloc (.cells #[.int .i64 10, .bool false, .int .i64 N, .int .i64 0, .int .i64 0, .string ⟨#[]⟩] 36)).alloc (.cells #[.int .i64 qk, .bool qx, .int .i64 qn, .int .i64 qp, .int .i64 ql, .string qs] 36) = w1 at *
  go_loopw [22] (fun c wr => ∃ j : Nat, j ≤ ps.length ∧ c = .int .i64 j ∧ (∀ (i : Nat) (p : O × O), i < j → ps[i]? = some p → sameO p.1 ⟨qk, qx, qn, qp, ql, qs⟩ = false) ∧ Ats w0 wr M ((b5 + 1, (.cells #[.int .i64 qk, .bool qx, .int .i64 qn, .int .i64 qp, .int .i64 ql, .string qs] 36)) :: (b5, (.cells #[.int .i64 10, .bool false, .int .i64 N, .int .i64 0, .int .i64 0, .string ⟨#[]⟩] 36)) :: K)) (fun c _ => ps.length - (intOf c).toNat)
  case atStart => exact ⟨0, Nat.zero_le _, rfl, fun i p hi => absurd hi (by omega), A1⟩
  case round =>
    obtain ⟨j, hj, rfl, hno, A2⟩ := hrel
    by_cases hlt : j < ps.length
    · obtain ⟨pv, hpv⟩ : ∃ p, ps[j]? = some p := ⟨ps[j], by simp [hlt]⟩
      obtain ⟨⟨xk, xx, xn, xp, xl, xs⟩, v⟩ := pv
      have G := HGh.out j _ hpv
      simp only at G
      have he : (sameO ⟨xk, xx, xn, xp, xl, xs⟩ ⟨qk, qx, qn, qp, ql, qs⟩ = true → r = j ∧ b = true) ∧ (sameO ⟨xk, xx, xn, xp, xl, xs⟩ ⟨qk, qx, qn, qp, ql, qs⟩ = false → ∀ (i : Nat) (p : O × O), i < j + 1 → ps[i]? = some p → sameO p.1 ⟨qk, qx, qn, qp, ql, qs⟩ = false) := by
        refine ⟨fun hs => ?_, fun hs i p hi hp => ?_⟩
        · rcases HP.out with ⟨hb, ⟨p', hp1, hp2⟩, hp3⟩ | ⟨hb, -, hp3⟩
          · refine ⟨?_, hb⟩
            rcases Nat.lt_trichotomy r j with g | g | g
            · rw [hno r p' g hp1] at hp2; simp at hp2
            · exact g
            · rw [hp3 j _ g hpv] at hs; simp at hs
          · rw [hp3 j _ hpv] at hs; simp at hs
        · rcases Nat.lt_succ_iff_lt_or_eq.1 hi with g | g
          · exact hno i p g hp
          · subst g; rw [hpv] at hp; obtain rfl := Option.some.inj hp; exact hs
      have HE := Hid.mk' he
      clear he hno
      have R5 := cells_of (A2.box _ (List.mem_cons_of_mem _ (List.mem_cons_self ..)))
      have hlt' : (j : Int) < ps.length := by omega
      go_wp2_with fail
      refine (at_get A2 _ _ G hm).mono ?_
      rintro e w2 ⟨rfl, A3⟩
      have R7 := cells_of (A3.box _ (List.mem_cons_self ..))
      have v7 := blk_lt (A3.box _ (List.mem_cons_self ..))
      simp only at v7
      clear R5 A2 A1 G
      by_cases c1 : xk = qk
      · have e1 : (xk == qk) = true := by simpa using c1
        by_cases c2 : xs = qs
        · have e2 : (xs.toList == qs.toList) = true := by rw [beq_bytes]; simpa using c2
          clear c1 c2
          go_wp2_with fail
          refine (at_same (A3.alloc _) ⟨xk, xx, xn, xp, xl, xs⟩ ⟨qk, qx, qn, qp, ql, qs⟩).mono ?_
          rintro e w4 ⟨rfl, A4⟩
          have A5 := A4.keep (List.sublist_cons_self _ _)
          clear A3 A4 R7
          by_cases hs : sameO ⟨xk, xx, xn, xp, xl, xs⟩ ⟨qk, qx, qn, qp, ql, qs⟩ = true
          · rw [hs]
            obtain ⟨rfl, rfl⟩ := HE.out.1 hs
            go_wp2_with fail
            go_ret2
            exact ⟨by simp, (A5.keep (List.sublist_cons_self _ _)).keep (List.sublist_cons_self _ _)⟩
          · have hs' : sameO ⟨xk, xx, xn, xp, xl, xs⟩ ⟨qk, qx, qn, qp, ql, qs⟩ = false := by simpa using hs
            rw [hs']
            go_wp2_with fail
            go_roundw
            case rel => exact ⟨j + 1, by omega, by go_num, HE.out.2 hs', A5⟩
            case measure => simp [intOf]; omega
        · have e2 : (xs.toList == qs.toList) = false := by rw [beq_bytes]; simpa using c2
          by_cases c3 : qk = 3
          · have e3 : (qk == 3) = true := by simpa using c3
            clear c1 c2 c3
            go_wp2_with fail
            refine (at_same (A3.alloc _) ⟨xk, xx, xn, xp, xl, xs⟩ ⟨qk, qx, qn, qp, ql, qs⟩).mono ?_
            rintro e w4 ⟨rfl, A4⟩
            have A5 := A4.keep (List.sublist_cons_self _ _)
            clear A3 A4 R7
            by_cases hs : sameO ⟨xk, xx, xn, xp, xl, xs⟩ ⟨qk, qx, qn, qp, ql, qs⟩ = true
            · rw [hs]
              obtain ⟨rfl, rfl⟩ := HE.out.1 hs
              go_wp2_with fail
              go_ret2
              exact ⟨by simp, (A5.keep (List.sublist_cons_self _ _)).keep (List.sublist_cons_self _ _)⟩
            · have hs' : sameO ⟨xk, xx, xn, xp, xl, xs⟩ ⟨qk, qx, qn, qp, ql, qs⟩ = false := by simpa using hs
              rw [hs']
              go_wp2_with fail
              go_roundw
              case rel => exact ⟨j + 1, by omega, by go_num, HE.out.2 hs', A5⟩
              case measure => simp [intOf]; omega
          · have e3 : (qk == 3) = false := by simpa using c3
            by_cases c4 : qk = 4
            · have e4 : (qk == 4) = true := by simpa using c4
              clear c1 c2 c3 c4
              go_wp2_with fail
              refine (at_same (A3.alloc _) ⟨xk, xx, xn, xp, xl, xs⟩ ⟨qk, qx, qn, qp, ql, qs⟩).mono ?_
              rintro e w4 ⟨rfl, A4⟩
              have A5 := A4.keep (List.sublist_cons_self _ _)
              clear A3 A4 R7
              by_cases hs : sameO ⟨xk, xx, xn, xp, xl, xs⟩ ⟨qk, qx, qn, qp, ql, qs⟩ = true
              · rw [hs]
                obtain ⟨rfl, rfl⟩ := HE.out.1 hs
                go_wp2_with fail
                go_ret2
                exact ⟨by simp, (A5.keep (List.sublist_cons_self _ _)).keep (List.sublist_cons_self _ _)⟩
              · have hs' : sameO ⟨xk, xx, xn, xp, xl, xs⟩ ⟨qk, qx, qn, qp, ql, qs⟩ = false := by simpa using hs
                rw [hs']
                go_wp2_with fail
                go_roundw
                case rel => exact ⟨j + 1, by omega, by go_num, HE.out.2 hs', A5⟩
                case measure => simp [intOf]; omega
            · have e4 : (qk == 4) = false := by simpa using c4
              have hs' : sameO ⟨xk, xx, xn, xp, xl, xs⟩ ⟨qk, qx, qn, qp, ql, qs⟩ = false := same_not _ _ (fun z => c2 z.2) c3 c4
              clear c1 c2 c3 c4
              go_wp2_with fail
              go_roundw
              case rel => exact ⟨j + 1, by omega, by go_num, HE.out.2 hs', (A3.alloc _).keep (List.sublist_cons_self _ _)⟩
              case measure => simp [intOf]; omega
      · have e1 : (xk == qk) = false := by simpa using c1
        by_cases c3 : qk = 3
        · have e3 : (qk == 3) = true := by simpa using c3
          clear c1 c3
          go_wp2_with fail
          refine (at_same (A3.alloc _) ⟨xk, xx, xn, xp, xl, xs⟩ ⟨qk, qx, qn, qp, ql, qs⟩).mono ?_
          rintro e w4 ⟨rfl, A4⟩
          have A5 := A4.keep (List.sublist_cons_self _ _)
          clear A3 A4 R7
          by_cases hs : sameO ⟨xk, xx, xn, xp, xl, xs⟩ ⟨qk, qx, qn, qp, ql, qs⟩ = true
          · rw [hs]
            obtain ⟨rfl, rfl⟩ := HE.out.1 hs
            go_wp2_with fail
            go_ret2
            exact ⟨by simp, (A5.keep (List.sublist_cons_self _ _)).keep (List.sublist_cons_self _ _)⟩
          · have hs' : sameO ⟨xk, xx, xn, xp, xl, xs⟩ ⟨qk, qx, qn, qp, ql, qs⟩ = false := by simpa using hs
            rw [hs']
            go_wp2_with fail
            go_roundw
            case rel => exact ⟨j + 1, by omega, by go_num, HE.out.2 hs', A5⟩
            case measure => simp [intOf]; omega
        · have e3 : (qk == 3) = false := by simpa using c3
          by_cases c4 : qk = 4
          · have e4 : (qk == 4) = true := by simpa using c4
            clear c1 c3 c4
            go_wp2_with fail
            refine (at_same (A3.alloc _) ⟨xk, xx, xn, xp, xl, xs⟩ ⟨qk, qx, qn, qp, ql, qs⟩).mono ?_
            rintro e w4 ⟨rfl, A4⟩
            have A5 := A4.keep (List.sublist_cons_self _ _)
            clear A3 A4 R7
            by_cases hs : sameO ⟨xk, xx, xn, xp, xl, xs⟩ ⟨qk, qx, qn, qp, ql, qs⟩ = true
            · rw [hs]
              obtain ⟨rfl, rfl⟩ := HE.out.1 hs
              go_wp2_with fail
              go_ret2
              exact ⟨by simp, (A5.keep (List.sublist_cons_self _ _)).keep (List.sublist_cons_self _ _)⟩
            · have hs' : sameO ⟨xk, xx, xn, xp, xl, xs⟩ ⟨qk, qx, qn, qp, ql, qs⟩ = false := by simpa using hs
              rw [hs']
              go_wp2_with fail
              go_roundw
              case rel => exact ⟨j + 1, by omega, by go_num, HE.out.2 hs', A5⟩
              case measure => simp [intOf]; omega
          · have e4 : (qk == 4) = false := by simpa using c4
            have hs' : sameO ⟨xk, xx, xn, xp, xl, xs⟩ ⟨qk, qx, qn, qp, ql, qs⟩ = false := same_not _ _ (fun z => c1 z.1) c3 c4
            clear c1 c3 c4
            go_wp2_with fail
            go_roundw
            case rel => exact ⟨j + 1, by omega, by go_num, HE.out.2 hs', (A3.alloc _).keep (List.sublist_cons_self _ _)⟩
            case measure => simp [intOf]; omega
    · have hr' : r = 0 ∧ b = false := by
        rcases HP.out with ⟨-, ⟨p', hp1, hp2⟩, -⟩ | ⟨hb, hr0, -⟩
        · rw [hno r p' (by have := (List.getElem?_eq_some_iff.1 hp1).1; omega) hp1] at hp2; simp at hp2
        · exact ⟨hr0, hb⟩
      obtain ⟨rfl, rfl⟩ := hr'
      have hle : (ps.length : Int) ≤ j := by omega
      clear hno HP
      go_wp2_with fail
      go_ret2
      exact ⟨by simp, (A2.keep (List.sublist_cons_self _ _)).keep (List.sublist_cons_self _ _)⟩
end Go.Proofs.Ytpgkjgceldleaaa
/- dict.look, on a heap that a law made. -/
namespace Go.Proofs.Ytpgkjgceldleaaa
open Go.RowKit

abbrev foundC (key : O) (at' n room : Int) (there : Bool) : Array Value := #[.int .i64 key.kind, .bool key.exec, .int .i64 key.n, .int .i64 key.pos, .int .i64 key.len, .string key.s, .int .i64 at', .int .i64 n, .int .i64 room, .bool there]

set_option maxRecDepth 100000 in
set_option maxHeartbeats 8000000 in
theorem at_look {lk : Bool} {w0 w : World} {hp : Nat} {L : List C} {M : List (Nat × List C)} {K : List (Nat × Obj)} (A : Ats w0 w M K) (hm : (hp, L) ∈ M) (N : Nat) (ps : List (O × O)) (room : Nat) (D : DicAt L N (dcellk lk ps room)) (h : ps.length ≤ room) (hr : room ≤ 1000) (hf : ps.length < 256)
    (k : O) {key : O} {e : Int} (hk : keyD L k = (key, e)) (r : Nat) (b : Bool) (hp1 : e = 0 → PlaceS ps key r b) (hp2 : e ≠ 0 → r = 0 ∧ b = false) :
    Calls Try.prog 50 #[ptr hp, (dicO N).val, k.val] w fun x w' => x = .returned (.tuple #[.agg (foundC key r ps.length room b), .int .i64 e]) ∧ Ats w0 w' M K := by
  have HK := fun {w' : World} {K' : List (Nat × Obj)} (A' : Ats w0 w' M K') => at_dkey A' k hk hm
  have HO := fun {w' : World} {K' : List (Nat × Obj)} (A' : Ats w0 w' M K') => at_dopen A' hm N ps room D h hr
  obtain ⟨kk, kx, kn, kp, kl, ks⟩ := k
  obtain ⟨ck, cx, cn, cp, cl, cs⟩ := key
  have A1 := ((A.alloc (.cells #[.int .i64 10, .bool false, .int .i64 N, .int .i64 0, .int .i64 0, .string ⟨#[]⟩] 36)).alloc (.cells #[.int .i64 kk, .bool kx, .int .i64 kn, .int .i64 kp, .int .i64 kl, .string ks] 36)).alloc (.cells (foundC O.nil 0 0 0 false) 108)
  simp only [World.size_alloc, O.nil] at A1
  go_enter Try.func50, Try.ntmps50
  go_wp2_with fail
  refine (HO A1).mono ?_
  rintro x w2 ⟨rfl, A2⟩
  have R5 := cells_of (A2.box _ (List.mem_cons_of_mem _ (List.mem_cons_self ..)))
  have R6 := cells_of (A2.box _ (List.mem_cons_self ..))
  have Z6 := free_of (A2.box _ (List.mem_cons_self ..))
  have l6 := blk_lt (A2.box _ (List.mem_cons_self ..))
  simp only at l6
  clear HO A1
  go_wp2_with fail
  have A3 := (A2.put 7 (.int .i64 ps.length)).put 8 (.int .i64 room)
  change Ats w0 _ M ((_, .cells (foundC ⟨0, false, 0, 0, 0, ⟨#[]⟩⟩ 0 ps.length room false) _) :: _) at A3
  generalize (w2.setCell ⟨w.heap.size + 1 + 1, 7, none⟩ (.int .i64 ps.length)).setCell ⟨w.heap.size + 1 + 1, 8, none⟩ (.int .i64 room) = w3 at *
  clear R5 R6 Z6 l6 A2
  refine (HK A3).mono ?_
  rintro x w4 ⟨rfl, A4⟩
  clear HK A3
  have R4 := cells_of (A4.box _ (List.mem_cons_of_mem _ (List.mem_cons_of_mem _ (List.mem_cons_self ..))))
  have R6 := cells_of (A4.box _ (List.mem_cons_self ..))
  have Z6 := free_of (A4.box _ (List.mem_cons_self ..))
  have l6 := blk_lt (A4.box _ (List.mem_cons_self ..))
  simp only at l6
  by_cases he : e = 0
  · subst he
    have HP := hp1 rfl
    clear hp1 hp2
    go_wp2_with fail
    have A5 := (((((A4.put 0 (.int .i64 ck)).put 1 (.bool cx)).put 2 (.int .i64 cn)).put 3 (.int .i64 cp)).put 4 (.int .i64 cl)).put 5 (.string cs)
    change Ats w0 _ M ((_, .cells (foundC ⟨ck, cx, cn, cp, cl, cs⟩ 0 ps.length room false) _) :: _) at A5
    generalize (((((w4.setCell ⟨w.heap.size + 1 + 1, 0, none⟩ (.int .i64 ck)).setCell ⟨w.heap.size + 1 + 1, 1, none⟩ (.bool cx)).setCell ⟨w.heap.size + 1 + 1, 2, none⟩ (.int .i64 cn)).setCell ⟨w.heap.size + 1 + 1, 3, none⟩ (.int .i64 cp)).setCell ⟨w.heap.size + 1 + 1, 4, none⟩ (.int .i64 cl)).setCell ⟨w.heap.size + 1 + 1, 5, none⟩ (.string cs) = w5 at *
    clear R4 R6 Z6 l6 A4
    refine (at_place A5 hm N ps room D h hf ⟨ck, cx, cn, cp, cl, cs⟩ r b HP).mono ?_
    rintro x w6 ⟨rfl, A6⟩
    have R6 := cells_of (A6.box _ (List.mem_cons_self ..))
    have Z6 := free_of (A6.box _ (List.mem_cons_self ..))
    have l6 := blk_lt (A6.box _ (List.mem_cons_self ..))
    simp only at l6
    clear A5
    have A7 := ((((((((((((A6.put 6 (.int .i64 r)).put 9 (.bool b)).put 0 (.int .i64 ck)).put 1 (.bool cx)).put 2 (.int .i64 cn)).put 3 (.int .i64 cp)).put 4 (.int .i64 cl)).put 5 (.string cs)).put 6 (.int .i64 r)).put 7 (.int .i64 ps.length)).put 8 (.int .i64 room)).put 9 (.bool b))
    have R7 := cells_of (A7.box _ (List.mem_cons_self ..))
    simp only at R7
    go_wp2
    refine bodyPost_ret (v := .tuple #[.agg (foundC ⟨ck, cx, cn, cp, cl, cs⟩ r ps.length room b), .int .i64 0]) (by simp [results, Try.results50, go_sem, R7]) rfl ⟨rfl, A7.loses (K1 := [_, _, _]) (Chg.refl _ _)⟩
  · obtain ⟨rfl, rfl⟩ := hp2 he
    have he' : (e != 0) = true := by simpa using he
    clear hp1 hp2
    have A7 := ((((((((((((((((A4.put 0 (.int .i64 ck)).put 1 (.bool cx)).put 2 (.int .i64 cn)).put 3 (.int .i64 cp)).put 4 (.int .i64 cl)).put 5 (.string cs)).put 0 (.int .i64 ck)).put 1 (.bool cx)).put 2 (.int .i64 cn)).put 3 (.int .i64 cp)).put 4 (.int .i64 cl)).put 5 (.string cs)).put 6 (.int .i64 0)).put 7 (.int .i64 ps.length)).put 8 (.int .i64 room)).put 9 (.bool false))
    have R7 := cells_of (A7.box _ (List.mem_cons_self ..))
    simp only at R7
    go_wp2
    refine bodyPost_ret (v := .tuple #[.agg (foundC ⟨ck, cx, cn, cp, cl, cs⟩ 0 ps.length room false), .int .i64 e]) (by simp [results, Try.results50, go_sem, R7]) rfl ⟨rfl, A7.loses (K1 := [_, _, _]) (Chg.refl _ _)⟩
end Go.Proofs.Ytpgkjgceldleaaa
