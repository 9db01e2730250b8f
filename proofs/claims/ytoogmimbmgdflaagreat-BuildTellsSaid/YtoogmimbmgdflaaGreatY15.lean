/- Parts of the proof: Dpl, Dpm, Dob, Dos, Arp, Dk, Dl, Dm, Dn, Ds, Dp. -/
import Derived.Test.YtoogmimbmgdflaaGreatY12
namespace Go.Proofs.YtoogmimbmgdflaaGreat
open Go.RowKit
variable {L : List C} {N hp : Nat} {c : C} {w w0 : World} {M : List (Nat × List C)} {K : List (Nat × Obj)} {e : Int} {is : List O} {lk : Bool}
abbrev numO (v : Int) : O := ⟨3, false, v, 0, 0, ⟨#[]⟩⟩
abbrev dicO (N : Int) : O := ⟨10, false, N, 0, 0, ⟨#[]⟩⟩
def pairsL (ps : List (O × O)) : List O := ps.flatMap fun p => [p.1, p.2]
theorem pairs_length : ∀ ps : List (O × O), (pairsL ps).length = 2 * ps.length
 | [] => rfl
 | p :: ps => by
  have := pairs_length ps; simp only [pairsL, List.flatMap_cons, List.length_append, List.length_cons, List.length_nil] at this ⊢; omega
theorem pairs_key : ∀ (ps : List (O × O)) (i : Nat), (pairsL ps)[2 * i]? = (ps[i]?).map Prod.fst
 | [], i => by simp [pairsL]
 | p :: ps, 0 => by simp [pairsL]
 | p :: ps, i + 1 => by
  have := pairs_key ps i; rw [show 2 * (i + 1) = 2 * i + 2 by omega]
  simpa [pairsL] using this
theorem pairs_val : ∀ (ps : List (O × O)) (i : Nat), (pairsL ps)[2 * i + 1]? = (ps[i]?).map Prod.snd
 | [], i => by simp [pairsL]
 | p :: ps, 0 => by simp [pairsL]
 | p :: ps, i + 1 => by
  have := pairs_val ps i; rw [show 2 * (i + 1) + 1 = 2 * i + 1 + 2 by omega]
  simpa [pairsL] using this
def dItems (ps : List (O × O)) (room : Nat) : List O := numO ps.length :: (pairsL ps ++ List.replicate (2 * (room - ps.length)) nullO)
abbrev dcellk (lk : Bool) (ps : List (O × O)) (room : Nat) : C := ⟨false, true, lk, dItems ps room, []⟩
abbrev dcell (ps : List (O × O)) (room : Nat) : C := dcellk false ps room
theorem dItems_length (ps : List (O × O)) (room : Nat) (h : ps.length ≤ room) : (dItems ps room).length = 2 * room + 1 := by
 simp [dItems, pairs_length]; omega
theorem dItems_at (ps : List (O × O)) (room : Nat) (h : ps.length ≤ room) (j : Nat) (hj : j < 2 * room + 1) :
 (dItems ps room)[j]? = some (if j = 0 then numO ps.length else match ps[(j - 1) / 2]? with | none => nullO | some p => if j % 2 = 1 then p.1 else p.2) := by
 cases j with
 | zero => simp [dItems]
 | succ j =>
  rw [if_neg (by omega)]; simp only [dItems, List.getElem?_cons_succ, Nat.add_sub_cancel]
  obtain ⟨q, hq⟩ : ∃ q, j = 2 * q ∨ j = 2 * q + 1 := ⟨j / 2, by omega⟩
  by_cases hl : q < ps.length
  · rw [List.getElem?_append_left (by rw [pairs_length]; omega)]
    rcases hq with rfl | rfl
    · rw [pairs_key, show 2 * q / 2 = q by omega, List.getElem?_eq_getElem hl]
      have em : (2 * q + 1) % 2 = 1 := by omega
      simp [em]
    · rw [pairs_val, show (2 * q + 1) / 2 = q by omega, List.getElem?_eq_getElem hl]
      have em : ¬ (2 * q + 1 + 1) % 2 = 1 := by omega
      simp [em]
  · have hn : ps[j / 2]? = none := List.getElem?_eq_none (by omega); rw [hn, List.getElem?_append_right (by rw [pairs_length]; omega), pairs_length, List.getElem?_replicate, if_pos (by omega)]
theorem dItems_ext (l : List O) (ps : List (O × O)) (room : Nat) (h : ps.length ≤ room) (hl : l.length = 2 * room + 1)
 (he : ∀ j, j < 2 * room + 1 → l[j]? = some (if j = 0 then numO ps.length else match ps[(j - 1) / 2]? with | none => nullO | some p => if j % 2 = 1 then p.1 else p.2)) : l = dItems ps room := by
 apply List.ext_getElem?
 intro j
 by_cases hj : j < 2 * room + 1
 · rw [he j hj, dItems_at ps room h j hj]
 · rw [List.getElem?_eq_none (by omega), List.getElem?_eq_none (by rw [dItems_length ps room h]; omega)]
theorem dItems_set (ps : List (O × O)) (room i : Nat) (h : ps.length ≤ room) (k v w : O) (hi : ps[i]? = some (k, w)) : (dItems ps room).set (2 * i + 2) v = dItems (ps.set i (k, v)) room := by
 have hlt : i < ps.length := (List.getElem?_eq_some_iff.1 hi).1; refine dItems_ext _ _ _ (by simpa using h) (by simp [dItems_length ps room h]) fun j hj => ?_; rw [List.getElem?_set, dItems_length ps room h]
 by_cases e : 2 * i + 2 = j
 · subst e; rw [if_pos rfl, if_pos hj, if_neg (by omega), show (2 * i + 2 - 1) / 2 = i by omega]; simp [hlt]
 · rw [if_neg e, dItems_at ps room h j hj]; simp only [List.length_set]
   by_cases e0 : j = 0
   · rw [if_pos e0, if_pos e0]
   · rw [if_neg e0, if_neg e0, List.getElem?_set]
     by_cases e1 : i = (j - 1) / 2
     · rw [if_pos e1, if_pos (by omega), ← e1, hi]
       have : j % 2 = 1 := by omega
       simp [this]
     · rw [if_neg e1]
theorem dItems_push (ps : List (O × O)) (room : Nat) (h : ps.length < room) (k v : O) : (((dItems ps room).set (2 * ps.length + 1) k).set (2 * ps.length + 2) v).set 0 (numO (ps.length + 1 : Int)) = dItems (ps ++ [(k, v)]) room := by
 refine dItems_ext _ _ _ (by simp; omega) (by simp [dItems_length ps room (by omega)]) fun j hj => ?_; rw [List.getElem?_set, List.getElem?_set, List.getElem?_set]; simp only [List.length_set, dItems_length ps room (by omega)]
 by_cases e0 : 0 = j
 · subst e0; simp
 rw [if_neg e0, if_neg (show ¬ j = 0 by omega)]
 by_cases e1 : 2 * ps.length + 2 = j
 · rw [if_pos e1, if_pos (by omega), show (j - 1) / 2 = ps.length by omega]
   have : ¬ j % 2 = 1 := by omega
   simp [this]
 rw [if_neg e1]
 by_cases e2 : 2 * ps.length + 1 = j
 · rw [if_pos e2, if_pos (by omega), show (j - 1) / 2 = ps.length by omega]
   have : j % 2 = 1 := by omega
   simp [this]
 rw [if_neg e2, dItems_at ps room (by omega) j hj, if_neg (show ¬ j = 0 by omega)]
 by_cases hlt : (j - 1) / 2 < ps.length
 · rw [List.getElem?_append_left hlt]
 · rw [List.getElem?_eq_none (by omega), List.getElem?_eq_none (by simp; omega)]
structure DicAt (L : List C) (N : Nat) (c : C) : Prop where
 cell : L[N]? = some c
 text : c.text = false
 dict : c.dict = true
 free : c.locked = c.locked
 room : c.items.length ≤ 40000
 place : N ≤ 40000
theorem DicAt.size (D : DicAt L N c) : c.size = c.items.length := by simp [C.size, D.text]
theorem DicAt.kind (D : DicAt L N c) : c.kind = 10 := by simp [C.kind, D.text, D.dict]
theorem DicAt.lt (D : DicAt L N c) : N < L.length := (List.getElem?_eq_some_iff.1 D.cell).1
theorem DicAt.may (D : DicAt L N c) : mayH L (dicO N) = true := by
 have h1 := D.cell; have h2 := D.lt; have h3 := D.place; have h4 := D.kind; simp [mayH, held, mayO, eqO, bareO, O.nil, h1, h4]
 omega
theorem DicAt.find (D : DicAt L N c) : findE L (dicO N) = 0 := by
 have := D.may; simp [findE, this, held]
theorem DicAt.sizeOf (D : DicAt L N c) : sizeH L (dicO N) = ((c.items.length : Int), 0) := by
 have h1 := D.cell; have h2 := D.size; unfold sizeH; rw [D.find]; simp [h1, lenOf, h2]
theorem DicAt.get (D : DicAt L N c) (i : Int) (h0 : 0 ≤ i) (x : O) (hx : c.items[i.toNat]? = some x) : getH L (dicO N) i = (x, 0) := by
 have h1 := D.cell; have h2 := D.size; have h3 := D.text; have hl := (List.getElem?_eq_some_iff.1 hx).1; unfold getH; rw [D.find]; simp only [ne_eq, not_true_eq_false, if_false, Int.toNat_natCast, h1, lenOf, if_true, h2, h3, atOf, Int.zero_add, Bool.false_eq_true]; rw [if_neg (by omega), List.getD_eq_getElem?_getD, hx]; rfl
theorem DicAt.set (D : DicAt L N c) (i : Int) (h0 : 0 ≤ i) (h1 : i < c.items.length) (x : O) (hx : mayH L x = true) (e4 : c.locked = false := by rfl) :
 setH L (dicO N) i x = (L.set N { c with items := c.items.set i.toNat x }, 0) := by
 have e1 := D.cell; have e2 := D.size; have e3 := D.text; unfold setH; rw [D.find]; simp only [ne_eq, not_true_eq_false, if_false, Int.toNat_natCast, e1, lenOf, if_true, e2, e3, e4, atOf, Int.zero_add, Bool.false_eq_true, hx, Bool.true_eq_false]; rw [if_neg (by omega)]
theorem DicAt.put (D : DicAt L N c) (c' : C) (h1 : c'.text = false) (h2 : c'.dict = true) (h3 : c'.locked = c'.locked) (h4 : c'.items.length = c.items.length) : DicAt (L.set N c') N c' :=
 ⟨by rw [List.getElem?_set, if_pos rfl, if_pos D.lt], h1, h2, h3, by rw [h4]; exact D.room, D.place⟩
theorem may_put (L : List C) (N : Nat) (c c' : C) (hc : L[N]? = some c) (hk : c'.kind = c.kind) (hs : c'.size = c.size) (o : O) : mayH (L.set N c') o = mayH L o := by
 unfold mayH
 congr 2
 simp only [List.length_set, List.getElem?_set]
 by_cases e : N = o.n.toNat
 · have hl := (List.getElem?_eq_some_iff.1 hc).1; rw [if_pos e, if_pos hl, ← e, hc]; simp only [hk, hs]
 · rw [if_neg e]
theorem set_set_same (L : List C) (N : Nat) (c c' : C) : (L.set N c).set N c' = L.set N c' := by simp
theorem at_size (A : Ats w0 w M K) (o : O) {n e : Int} (hr : sizeH L o = (n, e)) (hm : (hp, L) ∈ M) :
 Calls Tryz.prog 139 #[ptr hp, o.val] w fun r w' => r = .returned (.tuple #[.int .i64 n, .int .i64 e]) ∧ Ats w0 w' M K :=
 A.asks hm fun h h1 h2 H => by subst h1 h2; have := hsize_any h o w H; rwa [hr] at this
def sizeO (o : O) : Int × Bool := if mayO o = false then (0, false) else if o.kind = 3 then (o.n * 65536, true) else if o.kind = 4 then (o.n, true) else (0, false)
def unO (o : O) : O := ⟨o.kind, false, o.n, o.pos, o.len, o.s⟩
def sameO (a b : O) : Bool := if (sizeO a).2 = true ∧ (sizeO b).2 = true then decide ((sizeO a).1 = (sizeO b).1) else eqO (unO a) (unO b)
theorem sizeO_num (o : O) (h : (sizeO o).2 = true) : o.kind = 3 ∨ o.kind = 4 := by
 unfold sizeO at h; split at h
 · simp at h
 · split at h
   · left; assumption
   · split at h
     · right; assumption
     · simp at h
theorem same_not (x k : O) (h1 : ¬ (x.kind = k.kind ∧ x.s = k.s)) (h2 : ¬ k.kind = 3) (h3 : ¬ k.kind = 4) : sameO x k = false := by
 unfold sameO; rw [if_neg (fun h => (sizeO_num k h.2).elim h2 h3)]; refine eqO_ne fun e => h1 ?_; simp only [unO, O.mk.injEq] at e; exact ⟨e.1, e.2.2.2.2.2⟩
def keyD (L : List C) (o : O) : O × Int :=
 if o.kind = 1 then (O.nil, 6) else if mayH L o = false then (O.nil, 1) else if o.kind = 8 then
  if 100 < ((bytesH L o).1.size : Int) then (O.nil, 5) else (⟨5, false, 0, 0, 0, (bytesH L o).1⟩, 0)
 else (unO o, 0)
def PlaceS (ps : List (O × O)) (k : O) (i : Nat) (b : Bool) : Prop :=
 (b = true ∧ (∃ p, ps[i]? = some p ∧ sameO p.1 k = true) ∧ ∀ (j : Nat) (p : O × O), j < i → ps[j]? = some p → sameO p.1 k = false) ∨ (b = false ∧ i = 0 ∧ ∀ (j : Nat) (p : O × O), ps[j]? = some p → sameO p.1 k = false)
theorem mayO_int (o : O) (h : mayO o = true) (hk : o.kind = 3) : -2147483647 ≤ o.n ∧ o.n ≤ 2147483647 := by
 obtain ⟨k, ex, n, p, le, s⟩ := o; simp only at hk; subst hk; simp [mayO] at h
 exact h.2
set_option maxRecDepth 100000 in
set_option maxHeartbeats 1000000 in
theorem osize_any (o : O) (w : World) : Calls Tryz.prog 163 #[o.val] w fun e w' => e = .returned (.tuple #[.int .i64 (sizeO o).1, .bool (sizeO o).2]) ∧ Chg NoB w w' := by
 have hi := mayO_int o
 have hr : sizeO o = if mayO o = false then (0, false) else if o.kind = 3 then (o.n * 65536, true) else if o.kind = 4 then (o.n, true) else (0, false) := rfl
 have HM := fun w' => may_any o w'; obtain ⟨k, ex, n, p, le, s⟩ := o; simp only at hi hr; generalize mayO ⟨k, ex, n, p, le, s⟩ = b at *; have HR := Hid.mk' hr; clear hr; have X1 := (Chg.refl NoB w).alloc (.cells #[.int .i64 k, .bool ex, .int .i64 n, .int .i64 p, .int .i64 le, .string s] 39); have hB := blk_new w (.cells #[.int .i64 k, .bool ex, .int .i64 n, .int .i64 p, .int .i64 le, .string s] 39); go_enter Tryz.func163, Tryz.ntmps163
 go_wp2_with fail
 refine (HM _).mono ?_; rintro e w2 ⟨rfl, hb2⟩; have R := cells_of (hb2.blk hB id); have XX := X1.pure hb2; clear HM X1 hB hb2
 cases b with
 | false =>
  clear hi; go_wp2
  go_ret2
  rw [HR.out]; exact ⟨rfl, XX⟩
 | true =>
  by_cases h3 : k = 3
  · obtain ⟨hi1, hi2⟩ := hi rfl h3; subst h3; clear hi; go_wp2
    go_ret2
    rw [HR.out]; exact ⟨by simp, XX⟩
  · clear hi
    have b3 : (k == 3) = false := by simpa using h3
    by_cases h4 : k = 4
    · subst h4; go_wp2
      go_ret2
      rw [HR.out]; exact ⟨by simp, XX⟩
    · have b4 : (k == 4) = false := by simpa using h4
      go_wp2
      go_ret2
      rw [HR.out]; exact ⟨by simp [h3, h4], XX⟩
set_option maxRecDepth 100000 in
set_option maxHeartbeats 1000000 in
theorem onumbers_any (a b : O) (w : World) : Calls Tryz.prog 157 #[a.val, b.val] w fun e w' => e = .returned (.tuple #[.int .i64 (sizeO a).1, .int .i64 (sizeO b).1, .bool ((sizeO a).2 && (sizeO b).2)]) ∧ Chg NoB w w' := by
 have HA := fun w' => osize_any a w'; have HB := fun w' => osize_any b w'; generalize sizeO a = sa at *; generalize sizeO b = sb at *; obtain ⟨x, p⟩ := sa; obtain ⟨y, q⟩ := sb; obtain ⟨k, ex, n, c, le, s⟩ := a; obtain ⟨k', ex', n', c', le', s'⟩ := b; simp only at HA HB; have X1 := ((Chg.refl NoB w).alloc (.cells #[.int .i64 k, .bool ex, .int .i64 n, .int .i64 c, .int .i64 le, .string s] 39)).alloc (.cells #[.int .i64 k', .bool ex', .int .i64 n', .int .i64 c', .int .i64 le', .string s'] 39); have hB1 := blk_new1 w (.cells #[.int .i64 k, .bool ex, .int .i64 n, .int .i64 c, .int .i64 le, .string s] 39) (.cells #[.int .i64 k', .bool ex', .int .i64 n', .int .i64 c', .int .i64 le', .string s'] 39); go_enter Tryz.func157, Tryz.ntmps157
 go_wp2_with fail
 refine (HA _).mono ?_; rintro e w2 ⟨rfl, hb2⟩; have R1 := cells_of (hb2.blk hB1 id); have X2 := X1.pure hb2; clear HA X1 hB1 hb2; go_wp2_with fail
 refine (HB _).mono ?_; rintro e w3 ⟨rfl, hb3⟩; clear HB R1
 cases p
 all_goals
  go_wp2
  go_ret3; exact ⟨by simp, X2.pure hb3⟩
set_option maxRecDepth 100000 in
set_option maxHeartbeats 2000000 in
theorem osame_any (a b : O) (w : World) : Calls Tryz.prog 140 #[a.val, b.val] w fun e w' => e = .returned (.bool (sameO a b)) ∧ Chg NoB w w' := by
 have HN := fun w' => onumbers_any a b w'
 have hr : sameO a b = if (sizeO a).2 = true ∧ (sizeO b).2 = true then decide ((sizeO a).1 = (sizeO b).1) else eqO (unO a) (unO b) := rfl
 generalize sizeO a = sa at *; generalize sizeO b = sb at *; obtain ⟨x, p⟩ := sa; obtain ⟨y, q⟩ := sb; obtain ⟨k, ex, n, c, le, s⟩ := a; obtain ⟨k', ex', n', c', le', s'⟩ := b; simp only [unO] at HN hr; have HR := Hid.mk' hr; clear hr; have X1 := ((Chg.refl NoB w).alloc (.cells #[.int .i64 k, .bool ex, .int .i64 n, .int .i64 c, .int .i64 le, .string s] 39)).alloc (.cells #[.int .i64 k', .bool ex', .int .i64 n', .int .i64 c', .int .i64 le', .string s'] 39); have hB0 := blk_alloc (blk_new w (.cells #[.int .i64 k, .bool ex, .int .i64 n, .int .i64 c, .int .i64 le, .string s] 39)) (.cells #[.int .i64 k', .bool ex', .int .i64 n', .int .i64 c', .int .i64 le', .string s'] 39); have hB1 := blk_new1 w (.cells #[.int .i64 k, .bool ex, .int .i64 n, .int .i64 c, .int .i64 le, .string s] 39) (.cells #[.int .i64 k', .bool ex', .int .i64 n', .int .i64 c', .int .i64 le', .string s'] 39); go_enter Tryz.func140, Tryz.ntmps140
 go_wp2_with fail
 refine (HN _).mono ?_; rintro e w2 ⟨rfl, hb2⟩; have R0 := cells_of (hb2.blk hB0 id); have R1 := cells_of (hb2.blk hB1 id); have Z0 := free_of (hb2.blk hB0 id); have Z1 := free_of (hb2.blk hB1 id); have l0 := blk_lt (hb2.blk hB0 id); have l1 := blk_lt (hb2.blk hB1 id); have XX := X1.pure hb2; clear HN X1 hB0 hB1 hb2
 by_cases hpq : p = true ∧ q = true
 · obtain ⟨rfl, rfl⟩ := hpq; go_wp2
   go_ret; rw [HR.out]; exact ⟨by simp; rfl, XX⟩
 · have hb : (p && q) = false := by cases p <;> cases q <;> simp_all
   go_wp2
   go_ret; rw [HR.out, if_neg hpq]; refine ⟨rfl, ?_⟩
   (repeat' (first | with_reducible assumption | with_reducible refine Chg.alloc ?_ _ | with_reducible refine Chg.drew ?_ | with_reducible refine Chg.drewN ?_ _ | with_reducible refine Chg.setCell ?_ (Or.inr ?_) _ | exact Nat.le_refl _ | exact Nat.le_add_right _ _ | (simp; done) | (simp; omega)))
abbrev rowC (is : List O) : C := ⟨false, false, false, is, []⟩
abbrev arN (N z : Int) : O := ⟨9, false, N, 0, z, ⟨#[]⟩⟩
theorem mayO_arr (N z : Int) (h0 : 0 ≤ N) (h1 : N ≤ 40000) (hz : 0 ≤ z) (hz' : z ≤ 40000) : mayO (arN N z) = true := by
 simp [mayO, eqO, bareO, O.nil]; omega
theorem may_a (hc : L[N]? = some (rowC is)) (hN : N ≤ 40000) (hs : is.length ≤ 40000) (z : Int) (hz : z = is.length) : mayH L (arN N z) = true := by
 have hl := (List.getElem?_eq_some_iff.1 hc).1; unfold mayH; rw [mayO_arr N z (by omega) (by omega) (by omega) (by omega)]; simp [held, hc, C.kind, C.size]
 omega
theorem find_a (hc : L[N]? = some (rowC is)) (hN : N ≤ 40000) (hs : is.length ≤ 40000) (z : Int) (hz : z = is.length) : findE L (arN N z) = 0 := by
 simp [findE, may_a hc hN hs z hz, held]
theorem set_a (hc : L[N]? = some (rowC is)) (hN : N ≤ 40000) (hs : is.length ≤ 40000) (z : Int) (hz : z = is.length) (i : Nat) (hi : i < is.length) (x : O) (hx : mayH L x = true) : setH L (arN N z) i x = (L.set N (rowC (is.set i x)), 0) := by
 unfold setH; rw [find_a hc hN hs z hz]; simp only [ne_eq, not_true_eq_false, if_false, Int.toNat_natCast, hc, lenOf, atOf]
 have e9 : (9 : Int) = 10 ↔ False := by decide
 simp only [e9, if_false, if_neg (show ¬ ((i : Int) < 0 ∨ z ≤ i) by omega), Bool.false_eq_true, hx, Int.zero_add, Int.toNat_natCast]; simp
theorem array_a (L : List C) (n : Nat) (h1 : L.length < 2000) (h2 : used L + n ≤ 40000) : arrayH L n = (L ++ [rowC (List.replicate n nullO)], arN L.length n, 0) := by
 unfold arrayH; rw [if_neg (by omega), if_neg (by omega), add_fits _ _ h1 (by simp [C.size]; omega)]; simp [objOf, C.kind, C.size]
theorem set_last (L : List C) (c d : C) : (L ++ [c]).set L.length d = L ++ [d] := by
 rw [List.set_append_right _ _ (Nat.le_refl _), Nat.sub_self]; rfl
def filled (xs : List O) (n k : Nat) : List O := xs.take k ++ List.replicate (n - k) nullO
theorem filled_length (xs : List O) (n k : Nat) (h : xs.length = n) (hk : k ≤ n) : (filled xs n k).length = n := by
 simp [filled]; omega
theorem filled_set (xs : List O) (n k : Nat) (h : xs.length = n) (o : O) (ho : xs[k]? = some o) : (filled xs n k).set k o = filled xs n (k + 1) := by
 have hk : k < xs.length := (List.getElem?_eq_some_iff.1 ho).1
 have e : xs.take (k + 1) = xs.take k ++ [o] := by rw [List.take_add_one, ho]; rfl
 unfold filled; rw [List.set_append_right _ _ (by simp; omega), e, show n - k = (n - (k + 1)) + 1 by omega, List.replicate_succ, List.append_assoc]; have hm : min k xs.length = k := Nat.min_eq_left (Nat.le_of_lt hk); simp [hm]
theorem filled_all (xs : List O) (n : Nat) (h : xs.length = n) : filled xs n n = xs := by
 simp [filled, ← h]
theorem filled_none (xs : List O) (n : Nat) : filled xs n 0 = List.replicate n nullO := by simp [filled]
theorem Ats.loses {w' : World} {K1 : List (Nat × Obj)} (A : Ats w0 w M (K1 ++ K)) (X : Chg (· ∈ K1.map Prod.fst) w w') : Ats w0 w' M K := by
 obtain ⟨h, h1, H, X0, D, F, k, n⟩ := A
 have kk : ∀ b ∈ K1.map Prod.fst, b ∉ h.flatMap HS.foot ∧ w0.heap.size ≤ b := fun b hb => by
  obtain ⟨q, hq, rfl⟩ := List.mem_map.1 hb; exact (k q (List.mem_append_left _ hq)).2
 rw [List.map_append, List.nodup_append] at n
 exact ⟨h, h1, fun x hx => (H x hx).chg X fun c hc e => (kk c e).1 (List.mem_flatMap.2 ⟨x, hx, hc⟩), X0.trans' X (fun i hi e => by have := (kk i e).2; omega), D, F,
  fun q hq => ⟨X.blk (k q (List.mem_append_right _ hq)).1 (fun e => n.2.2 _ e _ (List.mem_map.2 ⟨q, hq, rfl⟩) rfl), (k q (List.mem_append_right _ hq)).2⟩, n.2.1⟩
theorem Chg.at {S : Nat → Prop} {a : World} {b : Nat} (hb : S b) (h : Chg S a w) (i : Nat) (u : Value) : Chg S a (w.setCell ⟨b, i, none⟩ u) := h.setCell (p := ⟨b, i, none⟩) (.inl hb) u
theorem at_same (A : Ats w0 w M K) (a b : O) :
 Calls Tryz.prog 140 #[a.val, b.val] w fun r w' => r = .returned (.bool (sameO a b)) ∧ Ats w0 w' M K :=
 (osame_any a b w).mono fun _r _w' ⟨h1, h2⟩ => ⟨h1, A.pure h2⟩
set_option maxRecDepth 100000 in
set_option maxHeartbeats 4000000 in
theorem at_dkey (A : Ats w0 w M K) (o : O) {key : O} {e : Int} (hr : keyD L o = (key, e)) (hm : (hp, L) ∈ M) :
 Calls Tryz.prog 76 #[ptr hp, o.val] w fun r w' => r = .returned (.tuple #[key.val, .int .i64 e]) ∧ Ats w0 w' M K := by
 obtain ⟨bs, hbs⟩ : ∃ b, bytesH L o = b := ⟨_, rfl⟩
 obtain ⟨by', be⟩ := bs; have HMay := fun {w' : World} {K' : List (Nat × Obj)} (A' : Ats w0 w' M K') => at_may A' o (b := mayH L o) rfl hm; have HByt := fun {w' : World} {K' : List (Nat × Obj)} (A' : Ats w0 w' M K') => at_bytes A' o hbs hm; unfold keyD at hr; rw [hbs] at hr; obtain ⟨k, ex, n, p, le, s⟩ := o; simp only [unO] at hr; have A1 := (A.alloc (.cells #[.int .i64 k, .bool ex, .int .i64 n, .int .i64 p, .int .i64 le, .string s] 39)).alloc (.cells #[.int .i64 0, .bool false, .int .i64 0, .int .i64 0, .int .i64 0, .string ⟨#[]⟩] 39); simp only [World.size_alloc] at A1
 by_cases h1 : k = 1
 · rw [if_pos h1] at hr; obtain ⟨rfl, rfl⟩ := Prod.mk.injEq .. ▸ hr; subst h1; go_enter Tryz.func76, Tryz.ntmps76
   go_wp2
   refine bodyPost_ret (v := .tuple #[O.nil.val, .int .i64 6]) (by simp [results, Tryz.results76, go_sem, O.nil]) rfl ⟨rfl, A.pure ?_⟩
   (repeat' (first | with_reducible assumption | with_reducible refine Chg.alloc ?_ _ | with_reducible refine Chg.drew ?_ | with_reducible refine Chg.drewN ?_ _ | with_reducible refine Chg.setCell ?_ (Or.inr ?_) _ | exact Nat.le_refl _ | exact Nat.le_add_right _ _ | (simp; done) | (simp; omega)))
   exact Chg.refl _ _
 rw [if_neg h1] at hr
 have b1 : (k == 1) = false := by simpa using h1
 by_cases h2 : mayH L ⟨k, ex, n, p, le, s⟩ = false
 · rw [if_pos h2] at hr; obtain ⟨rfl, rfl⟩ := Prod.mk.injEq .. ▸ hr; clear HByt; go_enter Tryz.func76, Tryz.ntmps76
   go_wp2_with fail
   refine (HMay A1).mono ?_; rintro e w2 ⟨rfl, A2⟩; rw [h2]; have R3 := cells_of (A2.box _ (List.mem_cons_of_mem _ (List.mem_cons_self ..))); have R4 := cells_of (A2.box _ (List.mem_cons_self ..)); have Z4 := free_of (A2.box _ (List.mem_cons_self ..)); have l4 := blk_lt (A2.box _ (List.mem_cons_self ..)); simp only at l4; clear HMay A1; go_wp2
   refine bodyPost_ret (v := .tuple #[O.nil.val, .int .i64 1]) (by simp [results, Tryz.results76, go_sem, R4, cell_set_at, O.nil]) rfl ⟨rfl, A2.loses (K1 := [_, _]) ?_⟩
   (repeat' (first | with_reducible exact Chg.refl _ _ | with_reducible refine Chg.drewN ?_ _ | with_reducible refine Chg.drew ?_ | with_reducible refine Chg.alloc ?_ _ | with_reducible refine Chg.at (by simp) ?_ _ _))
 rw [if_neg h2] at hr
 have h3 : mayH L ⟨k, ex, n, p, le, s⟩ = true := by simpa using h2
 rw [h3] at HMay
 by_cases h8 : k = 8
 · rw [if_pos h8] at hr; subst h8
   by_cases hl : 100 < (by'.size : Int)
   · rw [if_pos hl] at hr; obtain ⟨rfl, rfl⟩ := Prod.mk.injEq .. ▸ hr; go_enter Tryz.func76, Tryz.ntmps76
     go_wp2_with fail
     refine (HMay A1).mono ?_; rintro e w2 ⟨rfl, A2⟩; have R3 := cells_of (A2.box _ (List.mem_cons_of_mem _ (List.mem_cons_self ..))); go_wp2_with fail
     refine (HByt A2).mono ?_; rintro e w3 ⟨rfl, A3⟩; have R4 := cells_of (A3.box _ (List.mem_cons_self ..)); have Z4 := free_of (A3.box _ (List.mem_cons_self ..)); have l4 := blk_lt (A3.box _ (List.mem_cons_self ..)); simp only at l4; clear HMay HByt A1 A2 R3; go_wp2
     refine bodyPost_ret (v := .tuple #[O.nil.val, .int .i64 5]) (by simp [results, Tryz.results76, go_sem, R4, cell_set_at, O.nil]) rfl ⟨rfl, A3.loses (K1 := [_, _]) ?_⟩
     (repeat' (first | with_reducible exact Chg.refl _ _ | with_reducible refine Chg.drewN ?_ _ | with_reducible refine Chg.drew ?_ | with_reducible refine Chg.alloc ?_ _ | with_reducible refine Chg.at (by simp) ?_ _ _))
   · rw [if_neg hl] at hr; obtain ⟨rfl, rfl⟩ := Prod.mk.injEq .. ▸ hr; go_enter Tryz.func76, Tryz.ntmps76
     go_wp2_with fail
     refine (HMay A1).mono ?_; rintro e w2 ⟨rfl, A2⟩; have R3 := cells_of (A2.box _ (List.mem_cons_of_mem _ (List.mem_cons_self ..))); go_wp2_with fail
     refine (HByt A2).mono ?_; rintro e w3 ⟨rfl, A3⟩; have R4 := cells_of (A3.box _ (List.mem_cons_self ..)); have Z4 := free_of (A3.box _ (List.mem_cons_self ..)); have l4 := blk_lt (A3.box _ (List.mem_cons_self ..)); simp only at l4; clear HMay HByt A1 A2 R3; go_wp2
     refine bodyPost_ret (v := .tuple #[(⟨5, false, 0, 0, 0, by'⟩ : O).val, .int .i64 0]) (by simp [results, Tryz.results76, go_sem, R4, cell_set_at]) rfl ⟨rfl, A3.loses (K1 := [_, _]) ?_⟩
     (repeat' (first | with_reducible exact Chg.refl _ _ | with_reducible refine Chg.drewN ?_ _ | with_reducible refine Chg.drew ?_ | with_reducible refine Chg.alloc ?_ _ | with_reducible refine Chg.at (by simp) ?_ _ _))
 · rw [if_neg h8] at hr; obtain ⟨rfl, rfl⟩ := Prod.mk.injEq .. ▸ hr
   have b8 : (k == 8) = false := by simpa using h8
   clear HByt; go_enter Tryz.func76, Tryz.ntmps76
   go_wp2_with fail
   refine (HMay A1).mono ?_; rintro e w2 ⟨rfl, A2⟩; have R3 := cells_of (A2.box _ (List.mem_cons_of_mem _ (List.mem_cons_self ..))); have Z3 := free_of (A2.box _ (List.mem_cons_of_mem _ (List.mem_cons_self ..))); have R4 := cells_of (A2.box _ (List.mem_cons_self ..)); have Z4 := free_of (A2.box _ (List.mem_cons_self ..)); have l3 := blk_lt (A2.box _ (List.mem_cons_of_mem _ (List.mem_cons_self ..))); have l4 := blk_lt (A2.box _ (List.mem_cons_self ..)); simp only at l3 l4; clear HMay A1; go_wp2
   refine bodyPost_ret (v := .tuple #[(⟨k, false, n, p, le, s⟩ : O).val, .int .i64 0]) (by simp [results, Tryz.results76, go_sem, R4, cell_set_at]) rfl ⟨rfl, A2.loses (K1 := [_, _]) ?_⟩
   (repeat' (first | with_reducible exact Chg.refl _ _ | with_reducible refine Chg.drewN ?_ _ | with_reducible refine Chg.drew ?_ | with_reducible refine Chg.alloc ?_ _ | with_reducible refine Chg.at (by simp) ?_ _ _))
set_option maxRecDepth 100000 in
set_option maxHeartbeats 4000000 in
theorem at_dopen (A : Ats w0 w M K) (hm : (hp, L) ∈ M) (N : Nat) (ps : List (O × O)) (room : Nat) (D : DicAt L N (dcellk lk ps room)) (h : ps.length ≤ room) (hr : room ≤ 1000) :
 Calls Tryz.prog 103 #[ptr hp, (dicO N).val] w fun r w' => r = .returned (.tuple #[.int .i64 ps.length, .int .i64 room, .int .i64 0]) ∧ Ats w0 w' M K := by
 have e0 : (dcell ps room).items[(0 : Int).toNat]? = some (numO ps.length) := by simp [dItems]
 have S1 := D.sizeOf; have S2 := D.get 0 (by omega) _ e0
 have e1 : ((dItems ps room).length : Int) = 2 * room + 1 := by rw [dItems_length ps room h]; omega
 simp only at S1; rw [e1] at S1
 have e2 : IntKind.i64.wrap (2 * (room : Int) + 1 - 1) = 2 * room := by rw [IntWalk.i64_in _ (by omega)]; omega
 have e3 : wrap64 (2 * (room : Int) + 1 - 1) = 2 * room := by rw [IntWalk.wrap64_in _ (by omega)]; omega
 have hN := D.place; have A1 := A.alloc (.cells #[.int .i64 10, .bool false, .int .i64 N, .int .i64 0, .int .i64 0, .string ⟨#[]⟩] 39); have M1 := D.may; go_enter Tryz.func103, Tryz.ntmps103
 go_wp2_with fail
 refine (at_may A1 _ M1 hm).mono ?_; rintro e w2 ⟨rfl, A2⟩; have R2 := cells_of (A2.box _ (List.mem_cons_self ..)); go_wp2_with fail
 refine (at_size A2 _ S1 hm).mono ?_; rintro e w3 ⟨rfl, A3⟩; have R3 := cells_of (A3.box _ (List.mem_cons_self ..)); clear R2; go_wp2_with fail
 refine (at_get A3 _ _ S2 hm).mono ?_; rintro e w4 ⟨rfl, A4⟩; clear R3 A1 A2 A3 S1 S2 M1; go_wp2
 all_goals
  go_ret3; refine ⟨?_, (A4.pure ((Chg.refl NoB w4).alloc _)).keep (List.sublist_cons_self _ _)⟩
  first
   | (simp; done)
   | (simp; omega)
theorem beq_bytes (s t : ByteArray) : (s.toList == t.toList) = decide (s = t) := bytes_toList_eq s t
set_option maxRecDepth 100000 in
set_option maxHeartbeats 8000000 in
theorem at_place (A : Ats w0 w M K) (hm : (hp, L) ∈ M) (N : Nat) (ps : List (O × O)) (room : Nat) (D : DicAt L N (dcellk lk ps room)) (h : ps.length ≤ room) (hf : ps.length < 256) (q : O) (r : Nat) (b : Bool) (hp' : PlaceS ps q r b) :
 Calls Tryz.prog 104 #[ptr hp, (dicO N).val, .int .i64 ps.length, q.val] w fun e w' => e = .returned (.tuple #[.int .i64 r, .bool b]) ∧ Ats w0 w' M K := by
 obtain ⟨qk, qx, qn, qp, ql, qs⟩ := q; have A1 := (A.alloc (.cells #[.int .i64 10, .bool false, .int .i64 N, .int .i64 0, .int .i64 0, .string ⟨#[]⟩] 39)).alloc (.cells #[.int .i64 qk, .bool qx, .int .i64 qn, .int .i64 qp, .int .i64 ql, .string qs] 39); simp only [World.size_alloc] at A1
 have hf' : (ps.length : Int) < 256 := by omega
 have HG : ∀ (j : Nat) (p : O × O), ps[j]? = some p → getH L (dicO N) (2 * (j : Int) + 1) = (p.1, 0) := fun j p hj => D.get _ (by omega) _ (by
  have hl := (List.getElem?_eq_some_iff.1 hj).1; rw [show (2 * (j : Int) + 1).toNat = 2 * j + 1 by omega]; rw [dItems_at ps room h _ (by omega), if_neg (by omega), show (2 * j + 1 - 1) / 2 = j by omega, hj]
  simp)
 have HGh := Hid.mk' HG; clear HG; have HP := Hid.mk' hp'; clear hp'; go_enter Tryz.func104, Tryz.ntmps104
 go_wp2_with fail
 generalize w.heap.size = b5 at *; generalize (w.alloc (.cells #[.int .i64 10, .bool false, .int .i64 N, .int .i64 0, .int .i64 0, .string ⟨#[]⟩] 39)).alloc (.cells #[.int .i64 qk, .bool qx, .int .i64 qn, .int .i64 qp, .int .i64 ql, .string qs] 39) = w1 at *
 go_loopw [22] (fun c wr => ∃ j : Nat, j ≤ ps.length ∧ c = .int .i64 j ∧ (∀ (i : Nat) (p : O × O), i < j → ps[i]? = some p → sameO p.1 ⟨qk, qx, qn, qp, ql, qs⟩ = false) ∧ Ats w0 wr M ((b5 + 1, (.cells #[.int .i64 qk, .bool qx, .int .i64 qn, .int .i64 qp, .int .i64 ql, .string qs] 39)) :: (b5, (.cells #[.int .i64 10, .bool false, .int .i64 N, .int .i64 0, .int .i64 0, .string ⟨#[]⟩] 39)) :: K)) (fun c _ => ps.length - (intOf c).toNat)
 case atStart => exact ⟨0, Nat.zero_le _, rfl, fun i p hi => absurd hi (by omega), A1⟩
 case round =>
  obtain ⟨j, hj, rfl, hno, A2⟩ := hrel
  by_cases hlt : j < ps.length
  · obtain ⟨pv, hpv⟩ : ∃ p, ps[j]? = some p := ⟨ps[j], by simp [hlt]⟩
    obtain ⟨⟨xk, xx, xn, xp, xl, xs⟩, v⟩ := pv; have G := HGh.out j _ hpv; simp only at G
    have he : (sameO ⟨xk, xx, xn, xp, xl, xs⟩ ⟨qk, qx, qn, qp, ql, qs⟩ = true → r = j ∧ b = true) ∧ (sameO ⟨xk, xx, xn, xp, xl, xs⟩ ⟨qk, qx, qn, qp, ql, qs⟩ = false → ∀ (i : Nat) (p : O × O), i < j + 1 → ps[i]? = some p → sameO p.1 ⟨qk, qx, qn, qp, ql, qs⟩ = false) := by
     refine ⟨fun hs => ?_, fun hs i p hi hp => ?_⟩
     · rcases HP.out with ⟨hb, ⟨p', hp1, hp2⟩, hp3⟩ | ⟨hb, -, hp3⟩
       · refine ⟨?_, hb⟩
         rcases Nat.lt_trichotomy r j with g | g | g
         · rw [hno r p' g hp1] at hp2; simp at hp2
         · exact g
         · rw [hp3 j _ g hpv] at hs; simp at hs
       · rw [hp3 j _ hpv] at hs; simp at hs
     · rcases Nat.lt_succ_iff_lt_or_eq.1 hi with g | g
       · exact hno i p g hp
       · subst g; rw [hpv] at hp; obtain rfl := Option.some.inj hp; exact hs
    have HE := Hid.mk' he; clear he hno; have R5 := cells_of (A2.box _ (List.mem_cons_of_mem _ (List.mem_cons_self ..)))
    have hlt' : (j : Int) < ps.length := by omega
    go_wp2_with fail
    refine (at_get A2 _ _ G hm).mono ?_; rintro e w2 ⟨rfl, A3⟩; have R7 := cells_of (A3.box _ (List.mem_cons_self ..)); have v7 := blk_lt (A3.box _ (List.mem_cons_self ..)); simp only at v7; clear R5 A2 A1 G
    by_cases c1 : xk = qk
    · have e1 : (xk == qk) = true := by simpa using c1
      by_cases c2 : xs = qs
      · have e2 : (xs.toList == qs.toList) = true := by rw [beq_bytes]; simpa using c2
        clear c1 c2; go_wp2_with fail
        refine (at_same (A3.alloc _) ⟨xk, xx, xn, xp, xl, xs⟩ ⟨qk, qx, qn, qp, ql, qs⟩).mono ?_; rintro e w4 ⟨rfl, A4⟩; have A5 := A4.keep (List.sublist_cons_self _ _); clear A3 A4 R7
        by_cases hs : sameO ⟨xk, xx, xn, xp, xl, xs⟩ ⟨qk, qx, qn, qp, ql, qs⟩ = true
        · rw [hs]; obtain ⟨rfl, rfl⟩ := HE.out.1 hs; go_wp2_with fail
          go_ret2
          exact ⟨by simp, (A5.keep (List.sublist_cons_self _ _)).keep (List.sublist_cons_self _ _)⟩
        · have hs' : sameO ⟨xk, xx, xn, xp, xl, xs⟩ ⟨qk, qx, qn, qp, ql, qs⟩ = false := by simpa using hs
          rw [hs']; go_wp2_with fail
          go_roundw
          case rel => exact ⟨j + 1, by omega, by go_num, HE.out.2 hs', A5⟩
          case measure => simp [intOf]; omega
      · have e2 : (xs.toList == qs.toList) = false := by rw [beq_bytes]; simpa using c2
        by_cases c3 : qk = 3
        · have e3 : (qk == 3) = true := by simpa using c3
          clear c1 c2 c3; go_wp2_with fail
          refine (at_same (A3.alloc _) ⟨xk, xx, xn, xp, xl, xs⟩ ⟨qk, qx, qn, qp, ql, qs⟩).mono ?_; rintro e w4 ⟨rfl, A4⟩; have A5 := A4.keep (List.sublist_cons_self _ _); clear A3 A4 R7
          by_cases hs : sameO ⟨xk, xx, xn, xp, xl, xs⟩ ⟨qk, qx, qn, qp, ql, qs⟩ = true
          · rw [hs]; obtain ⟨rfl, rfl⟩ := HE.out.1 hs; go_wp2_with fail
            go_ret2
            exact ⟨by simp, (A5.keep (List.sublist_cons_self _ _)).keep (List.sublist_cons_self _ _)⟩
          · have hs' : sameO ⟨xk, xx, xn, xp, xl, xs⟩ ⟨qk, qx, qn, qp, ql, qs⟩ = false := by simpa using hs
            rw [hs']; go_wp2_with fail
            go_roundw
            case rel => exact ⟨j + 1, by omega, by go_num, HE.out.2 hs', A5⟩
            case measure => simp [intOf]; omega
        · have e3 : (qk == 3) = false := by simpa using c3
          by_cases c4 : qk = 4
          · have e4 : (qk == 4) = true := by simpa using c4
            clear c1 c2 c3 c4; go_wp2_with fail
            refine (at_same (A3.alloc _) ⟨xk, xx, xn, xp, xl, xs⟩ ⟨qk, qx, qn, qp, ql, qs⟩).mono ?_; rintro e w4 ⟨rfl, A4⟩; have A5 := A4.keep (List.sublist_cons_self _ _); clear A3 A4 R7
            by_cases hs : sameO ⟨xk, xx, xn, xp, xl, xs⟩ ⟨qk, qx, qn, qp, ql, qs⟩ = true
            · rw [hs]; obtain ⟨rfl, rfl⟩ := HE.out.1 hs; go_wp2_with fail
              go_ret2
              exact ⟨by simp, (A5.keep (List.sublist_cons_self _ _)).keep (List.sublist_cons_self _ _)⟩
            · have hs' : sameO ⟨xk, xx, xn, xp, xl, xs⟩ ⟨qk, qx, qn, qp, ql, qs⟩ = false := by simpa using hs
              rw [hs']; go_wp2_with fail
              go_roundw
              case rel => exact ⟨j + 1, by omega, by go_num, HE.out.2 hs', A5⟩
              case measure => simp [intOf]; omega
          · have e4 : (qk == 4) = false := by simpa using c4
            have hs' : sameO ⟨xk, xx, xn, xp, xl, xs⟩ ⟨qk, qx, qn, qp, ql, qs⟩ = false := same_not _ _ (fun z => c2 z.2) c3 c4; clear c1 c2 c3 c4; go_wp2_with fail
            go_roundw
            case rel => exact ⟨j + 1, by omega, by go_num, HE.out.2 hs', (A3.alloc _).keep (List.sublist_cons_self _ _)⟩
            case measure => simp [intOf]; omega
    · have e1 : (xk == qk) = false := by simpa using c1
      by_cases c3 : qk = 3
      · have e3 : (qk == 3) = true := by simpa using c3
        clear c1 c3; go_wp2_with fail
        refine (at_same (A3.alloc _) ⟨xk, xx, xn, xp, xl, xs⟩ ⟨qk, qx, qn, qp, ql, qs⟩).mono ?_; rintro e w4 ⟨rfl, A4⟩; have A5 := A4.keep (List.sublist_cons_self _ _); clear A3 A4 R7
        by_cases hs : sameO ⟨xk, xx, xn, xp, xl, xs⟩ ⟨qk, qx, qn, qp, ql, qs⟩ = true
        · rw [hs]; obtain ⟨rfl, rfl⟩ := HE.out.1 hs; go_wp2_with fail
          go_ret2
          exact ⟨by simp, (A5.keep (List.sublist_cons_self _ _)).keep (List.sublist_cons_self _ _)⟩
        · have hs' : sameO ⟨xk, xx, xn, xp, xl, xs⟩ ⟨qk, qx, qn, qp, ql, qs⟩ = false := by simpa using hs
          rw [hs']; go_wp2_with fail
          go_roundw
          case rel => exact ⟨j + 1, by omega, by go_num, HE.out.2 hs', A5⟩
          case measure => simp [intOf]; omega
      · have e3 : (qk == 3) = false := by simpa using c3
        by_cases c4 : qk = 4
        · have e4 : (qk == 4) = true := by simpa using c4
          clear c1 c3 c4; go_wp2_with fail
          refine (at_same (A3.alloc _) ⟨xk, xx, xn, xp, xl, xs⟩ ⟨qk, qx, qn, qp, ql, qs⟩).mono ?_; rintro e w4 ⟨rfl, A4⟩; have A5 := A4.keep (List.sublist_cons_self _ _); clear A3 A4 R7
          by_cases hs : sameO ⟨xk, xx, xn, xp, xl, xs⟩ ⟨qk, qx, qn, qp, ql, qs⟩ = true
          · rw [hs]; obtain ⟨rfl, rfl⟩ := HE.out.1 hs; go_wp2_with fail
            go_ret2
            exact ⟨by simp, (A5.keep (List.sublist_cons_self _ _)).keep (List.sublist_cons_self _ _)⟩
          · have hs' : sameO ⟨xk, xx, xn, xp, xl, xs⟩ ⟨qk, qx, qn, qp, ql, qs⟩ = false := by simpa using hs
            rw [hs']; go_wp2_with fail
            go_roundw
            case rel => exact ⟨j + 1, by omega, by go_num, HE.out.2 hs', A5⟩
            case measure => simp [intOf]; omega
        · have e4 : (qk == 4) = false := by simpa using c4
          have hs' : sameO ⟨xk, xx, xn, xp, xl, xs⟩ ⟨qk, qx, qn, qp, ql, qs⟩ = false := same_not _ _ (fun z => c1 z.1) c3 c4; clear c1 c3 c4; go_wp2_with fail
          go_roundw
          case rel => exact ⟨j + 1, by omega, by go_num, HE.out.2 hs', (A3.alloc _).keep (List.sublist_cons_self _ _)⟩
          case measure => simp [intOf]; omega
  · have hr' : r = 0 ∧ b = false := by
     rcases HP.out with ⟨-, ⟨p', hp1, hp2⟩, -⟩ | ⟨hb, hr0, -⟩
     · rw [hno r p' (by have := (List.getElem?_eq_some_iff.1 hp1).1; omega) hp1] at hp2; simp at hp2
     · exact ⟨hr0, hb⟩
    obtain ⟨rfl, rfl⟩ := hr'
    have hle : (ps.length : Int) ≤ j := by omega
    clear hno HP; go_wp2_with fail
    go_ret2
    exact ⟨by simp, (A2.keep (List.sublist_cons_self _ _)).keep (List.sublist_cons_self _ _)⟩
abbrev foundC (key : O) (at' n room : Int) (there : Bool) : Array Value := #[.int .i64 key.kind, .bool key.exec, .int .i64 key.n, .int .i64 key.pos, .int .i64 key.len, .string key.s, .int .i64 at', .int .i64 n, .int .i64 room, .bool there]
set_option maxRecDepth 100000 in
set_option maxHeartbeats 8000000 in
theorem at_look (A : Ats w0 w M K) (hm : (hp, L) ∈ M) (N : Nat) (ps : List (O × O)) (room : Nat) (D : DicAt L N (dcellk lk ps room)) (h : ps.length ≤ room) (hr : room ≤ 1000) (hf : ps.length < 256)
 (k : O) {key : O} {e : Int} (hk : keyD L k = (key, e)) (r : Nat) (b : Bool) (hp1 : e = 0 → PlaceS ps key r b) (hp2 : e ≠ 0 → r = 0 ∧ b = false) :
 Calls Tryz.prog 59 #[ptr hp, (dicO N).val, k.val] w fun x w' => x = .returned (.tuple #[.agg (foundC key r ps.length room b), .int .i64 e]) ∧ Ats w0 w' M K := by
 have HK := fun {w' : World} {K' : List (Nat × Obj)} (A' : Ats w0 w' M K') => at_dkey A' k hk hm; have HO := fun {w' : World} {K' : List (Nat × Obj)} (A' : Ats w0 w' M K') => at_dopen A' hm N ps room D h hr; obtain ⟨kk, kx, kn, kp, kl, ks⟩ := k; obtain ⟨ck, cx, cn, cp, cl, cs⟩ := key; have A1 := ((A.alloc (.cells #[.int .i64 10, .bool false, .int .i64 N, .int .i64 0, .int .i64 0, .string ⟨#[]⟩] 39)).alloc (.cells #[.int .i64 kk, .bool kx, .int .i64 kn, .int .i64 kp, .int .i64 kl, .string ks] 39)).alloc (.cells (foundC O.nil 0 0 0 false) 124); simp only [World.size_alloc, O.nil] at A1; go_enter Tryz.func59, Tryz.ntmps59
 go_wp2_with fail
 refine (HO A1).mono ?_; rintro x w2 ⟨rfl, A2⟩; have R5 := cells_of (A2.box _ (List.mem_cons_of_mem _ (List.mem_cons_self ..))); have R6 := cells_of (A2.box _ (List.mem_cons_self ..)); have Z6 := free_of (A2.box _ (List.mem_cons_self ..)); have l6 := blk_lt (A2.box _ (List.mem_cons_self ..)); simp only at l6; clear HO A1; go_wp2_with fail
 have A3 := (A2.put 7 (.int .i64 ps.length)).put 8 (.int .i64 room); change Ats w0 _ M ((_, .cells (foundC ⟨0, false, 0, 0, 0, ⟨#[]⟩⟩ 0 ps.length room false) _) :: _) at A3; generalize (w2.setCell ⟨w.heap.size + 1 + 1, 7, none⟩ (.int .i64 ps.length)).setCell ⟨w.heap.size + 1 + 1, 8, none⟩ (.int .i64 room) = w3 at *; clear R5 R6 Z6 l6 A2; refine (HK A3).mono ?_; rintro x w4 ⟨rfl, A4⟩; clear HK A3; have R4 := cells_of (A4.box _ (List.mem_cons_of_mem _ (List.mem_cons_of_mem _ (List.mem_cons_self ..)))); have R6 := cells_of (A4.box _ (List.mem_cons_self ..)); have Z6 := free_of (A4.box _ (List.mem_cons_self ..)); have l6 := blk_lt (A4.box _ (List.mem_cons_self ..)); simp only at l6
 by_cases he : e = 0
 · subst he; have HP := hp1 rfl; clear hp1 hp2; go_wp2_with fail
   have A5 := (((((A4.put 0 (.int .i64 ck)).put 1 (.bool cx)).put 2 (.int .i64 cn)).put 3 (.int .i64 cp)).put 4 (.int .i64 cl)).put 5 (.string cs); change Ats w0 _ M ((_, .cells (foundC ⟨ck, cx, cn, cp, cl, cs⟩ 0 ps.length room false) _) :: _) at A5; generalize (((((w4.setCell ⟨w.heap.size + 1 + 1, 0, none⟩ (.int .i64 ck)).setCell ⟨w.heap.size + 1 + 1, 1, none⟩ (.bool cx)).setCell ⟨w.heap.size + 1 + 1, 2, none⟩ (.int .i64 cn)).setCell ⟨w.heap.size + 1 + 1, 3, none⟩ (.int .i64 cp)).setCell ⟨w.heap.size + 1 + 1, 4, none⟩ (.int .i64 cl)).setCell ⟨w.heap.size + 1 + 1, 5, none⟩ (.string cs) = w5 at *; clear R4 R6 Z6 l6 A4; refine (at_place A5 hm N ps room D h hf ⟨ck, cx, cn, cp, cl, cs⟩ r b HP).mono ?_; rintro x w6 ⟨rfl, A6⟩; have R6 := cells_of (A6.box _ (List.mem_cons_self ..)); have Z6 := free_of (A6.box _ (List.mem_cons_self ..)); have l6 := blk_lt (A6.box _ (List.mem_cons_self ..)); simp only at l6; clear A5
   have A7 := ((((((((((((A6.put 6 (.int .i64 r)).put 9 (.bool b)).put 0 (.int .i64 ck)).put 1 (.bool cx)).put 2 (.int .i64 cn)).put 3 (.int .i64 cp)).put 4 (.int .i64 cl)).put 5 (.string cs)).put 6 (.int .i64 r)).put 7 (.int .i64 ps.length)).put 8 (.int .i64 room)).put 9 (.bool b))
   have R7 := cells_of (A7.box _ (List.mem_cons_self ..)); simp only at R7; go_wp2
   refine bodyPost_ret (v := .tuple #[.agg (foundC ⟨ck, cx, cn, cp, cl, cs⟩ r ps.length room b), .int .i64 0]) (by simp [results, Tryz.results59, go_sem, R7]) rfl ⟨rfl, A7.loses (K1 := [_, _, _]) (Chg.refl _ _)⟩
 · obtain ⟨rfl, rfl⟩ := hp2 he
   have he' : (e != 0) = true := by simpa using he
   clear hp1 hp2
   have A7 := ((((((((((((((((A4.put 0 (.int .i64 ck)).put 1 (.bool cx)).put 2 (.int .i64 cn)).put 3 (.int .i64 cp)).put 4 (.int .i64 cl)).put 5 (.string cs)).put 0 (.int .i64 ck)).put 1 (.bool cx)).put 2 (.int .i64 cn)).put 3 (.int .i64 cp)).put 4 (.int .i64 cl)).put 5 (.string cs)).put 6 (.int .i64 0)).put 7 (.int .i64 ps.length)).put 8 (.int .i64 room)).put 9 (.bool false))
   have R7 := cells_of (A7.box _ (List.mem_cons_self ..)); simp only at R7; go_wp2
   refine bodyPost_ret (v := .tuple #[.agg (foundC ⟨ck, cx, cn, cp, cl, cs⟩ 0 ps.length room false), .int .i64 e]) (by simp [results, Tryz.results59, go_sem, R7]) rfl ⟨rfl, A7.loses (K1 := [_, _, _]) (Chg.refl _ _)⟩
set_option maxRecDepth 100000 in
theorem at_dnew (A : Ats w0 w ((hp, L) :: M) K) (n : Int) {L' : List C} {o : O} {e : Int} (hr : dictH L n = (L', o, e)) :
 Calls Tryz.prog 24 #[ptr hp, .int .i64 n] w fun x w' => x = .returned (.tuple #[o.val, .int .i64 e]) ∧ Ats w0 w' ((hp, L') :: M) K := by
 obtain ⟨k, ex, m, p, le, s⟩ := o; have A1 := A.alloc (.cells #[.int .i64 0, .bool false, .int .i64 0, .int .i64 0, .int .i64 0, .string ⟨#[]⟩] 39); go_enter Tryz.func24, Tryz.ntmps24
 go_wp2_with fail
 refine (at_dict A1 n hr).mono ?_; rintro x w2 ⟨rfl, A2⟩; have R4 := cells_of (A2.box _ (List.mem_cons_self ..)); have Z4 := free_of (A2.box _ (List.mem_cons_self ..)); have l4 := blk_lt (A2.box _ (List.mem_cons_self ..)); simp only at l4; clear A1; go_wp2
 refine bodyPost_ret (v := .tuple #[(⟨k, ex, m, p, le, s⟩ : O).val, .int .i64 e]) (by simp [results, Tryz.results24, go_sem, R4, cell_set_at]) rfl ⟨rfl, A2.loses (K1 := [_]) ?_⟩
 (repeat' (first | with_reducible exact Chg.refl _ _ | with_reducible refine Chg.drewN ?_ _ | with_reducible refine Chg.drew ?_ | with_reducible refine Chg.alloc ?_ _ | with_reducible refine Chg.at (by simp) ?_ _ _))
set_option maxRecDepth 100000 in
set_option maxHeartbeats 8000000 in
theorem at_dgetNone (A : Ats w0 w M K) (hm : (hp, L) ∈ M) (N : Nat) (ps : List (O × O)) (room : Nat) (D : DicAt L N (dcellk lk ps room)) (h : ps.length ≤ room) (hr : room ≤ 1000) (hf : ps.length < 256)
 (k : O) {key : O} (hk : keyD L k = (key, 0)) (r : Nat) (hp1 : PlaceS ps key r false) :
 Calls Tryz.prog 78 #[ptr hp, (dicO N).val, k.val] w fun x w' => x = .returned (.tuple #[O.nil.val, .int .i64 9]) ∧ Ats w0 w' M K := by
 have HL := fun {w' : World} {K' : List (Nat × Obj)} (A' : Ats w0 w' M K') => at_look A' hm N ps room D h hr hf k hk r false (fun _ => hp1) (fun z => absurd rfl z); obtain ⟨kk, kx, kn, kp, kl, ks⟩ := k; obtain ⟨ck, cx, cn, cp, cl, cs⟩ := key; have A1 := ((A.alloc (.cells #[.int .i64 10, .bool false, .int .i64 N, .int .i64 0, .int .i64 0, .string ⟨#[]⟩] 39)).alloc (.cells #[.int .i64 kk, .bool kx, .int .i64 kn, .int .i64 kp, .int .i64 kl, .string ks] 39)).alloc (.cells #[.int .i64 0, .bool false, .int .i64 0, .int .i64 0, .int .i64 0, .string ⟨#[]⟩] 39); simp only [World.size_alloc] at A1; go_enter Tryz.func78, Tryz.ntmps78
 go_wp2_with fail
 refine (HL A1).mono ?_; rintro x w2 ⟨rfl, A2⟩; have R6 := cells_of (A2.box _ (List.mem_cons_self ..)); have Z6 := free_of (A2.box _ (List.mem_cons_self ..)); have l6 := blk_lt (A2.box _ (List.mem_cons_self ..)); simp only at l6; clear HL A1; go_wp2
 refine bodyPost_ret (v := .tuple #[O.nil.val, .int .i64 9]) (by simp [results, Tryz.results78, go_sem, R6, l6, cell_set_at, O.nil]) rfl ⟨rfl, A2.loses (K1 := [_, _, _]) ?_⟩
 (repeat' (first | with_reducible exact Chg.refl _ _ | with_reducible refine Chg.drewN ?_ _ | with_reducible refine Chg.drew ?_ | with_reducible refine Chg.alloc ?_ _ | with_reducible refine Chg.at (by simp) ?_ _ _))
theorem get_pair {ps : List (O × O)} {room : Nat} (D : DicAt L N (dcellk lk ps room)) (h : ps.length ≤ room) (r : Nat) (kk v : O) (hv : ps[r]? = some (kk, v)) : getH L (dicO N) (2 * (r : Int) + 2) = (v, 0) := D.get _ (by omega) _ (by
 have hl := (List.getElem?_eq_some_iff.1 hv).1; rw [show (2 * (r : Int) + 2).toNat = 2 * r + 2 by omega, dItems_at ps room h _ (by omega), if_neg (by omega), show (2 * r + 2 - 1) / 2 = r by omega, hv]
 have : ¬ (2 * r + 2) % 2 = 1 := by omega
 simp)
set_option maxRecDepth 100000 in
set_option maxHeartbeats 8000000 in
theorem at_dgetSome (A : Ats w0 w M K) (hm : (hp, L) ∈ M) (N : Nat) (ps : List (O × O)) (room : Nat) (D : DicAt L N (dcellk lk ps room)) (h : ps.length ≤ room) (hr : room ≤ 1000) (hf : ps.length < 256)
 (k : O) {key : O} (hk : keyD L k = (key, 0)) (r : Nat) (hp1 : PlaceS ps key r true) (kk' v : O) (hv : ps[r]? = some (kk', v)) :
 Calls Tryz.prog 78 #[ptr hp, (dicO N).val, k.val] w fun x w' => x = .returned (.tuple #[v.val, .int .i64 0]) ∧ Ats w0 w' M K := by
 have HL := fun {w' : World} {K' : List (Nat × Obj)} (A' : Ats w0 w' M K') => at_look A' hm N ps room D h hr hf k hk r true (fun _ => hp1) (fun z => absurd rfl z); have HV := get_pair D h r kk' v hv
 have hrl : (r : Int) < 1000 := by have := (List.getElem?_eq_some_iff.1 hv).1; omega
 obtain ⟨kk, kx, kn, kp, kl, ks⟩ := k; obtain ⟨ck, cx, cn, cp, cl, cs⟩ := key; obtain ⟨vk, vx, vn, vp, vl, vs⟩ := v; have A1 := ((A.alloc (.cells #[.int .i64 10, .bool false, .int .i64 N, .int .i64 0, .int .i64 0, .string ⟨#[]⟩] 39)).alloc (.cells #[.int .i64 kk, .bool kx, .int .i64 kn, .int .i64 kp, .int .i64 kl, .string ks] 39)).alloc (.cells #[.int .i64 0, .bool false, .int .i64 0, .int .i64 0, .int .i64 0, .string ⟨#[]⟩] 39); simp only [World.size_alloc] at A1; go_enter Tryz.func78, Tryz.ntmps78
 go_wp2_with fail
 refine (HL A1).mono ?_; rintro x w2 ⟨rfl, A2⟩; have R4 := cells_of (A2.box _ (List.mem_cons_of_mem _ (List.mem_cons_of_mem _ (List.mem_cons_self ..)))); have l4 := blk_lt (A2.box _ (List.mem_cons_of_mem _ (List.mem_cons_of_mem _ (List.mem_cons_self ..)))); simp only at l4; clear HL A1; go_wp2_with fail
 refine (at_get (A2.pure ((Chg.refl NoB w2).alloc _)) _ _ HV hm).mono ?_; rintro x w3 ⟨rfl, A3⟩; have R6 := cells_of (A3.box _ (List.mem_cons_self ..)); have Z6 := free_of (A3.box _ (List.mem_cons_self ..)); have l6 := blk_lt (A3.box _ (List.mem_cons_self ..)); simp only at l6; clear R4 A2; go_wp2
 refine bodyPost_ret (v := .tuple #[(⟨vk, vx, vn, vp, vl, vs⟩ : O).val, .int .i64 0]) (by simp [results, Tryz.results78, go_sem, R6, cell_set_at]) rfl ⟨rfl, A3.loses (K1 := [_, _, _]) ?_⟩
 (repeat' (first | with_reducible exact Chg.refl _ _ | with_reducible refine Chg.drewN ?_ _ | with_reducible refine Chg.drew ?_ | with_reducible refine Chg.alloc ?_ _ | with_reducible refine Chg.at (by simp) ?_ _ _))
theorem may_num (L : List C) (v : Int) (h : -2147483647 ≤ v) (h' : v ≤ 2147483647) : mayH L (numO v) = true := by
 simp [mayH, held, mayO, eqO, bareO, O.nil]
 omega
theorem DicAt.step (D : DicAt L N c) (i : Nat) (hi : i < c.items.length) (x : O) (hx : mayH L x = true) (hf : c.locked = false := by rfl) :
 setH L (dicO N) (i : Int) x = (L.set N { c with items := c.items.set i x }, 0) ∧ DicAt (L.set N { c with items := c.items.set i x }) N { c with items := c.items.set i x } ∧ ∀ o, mayH (L.set N { c with items := c.items.set i x }) o = mayH L o := by
 refine ⟨?_, D.put _ D.text D.dict D.free (by simp), fun o => may_put L N c { c with items := c.items.set i x } D.cell rfl (by simp [C.size, D.text]) o⟩; have := D.set (i : Int) (by omega) (by omega) x hx hf; rwa [Int.toNat_natCast] at this
theorem set_there {ps : List (O × O)} {room : Nat} (D : DicAt L N (dcell ps room)) (h : ps.length ≤ room) (r : Nat) (kk u v : O) (hv : ps[r]? = some (kk, u)) (hm : mayH L v = true) :
 setH L (dicO N) (2 * (r : Int) + 2) v = (L.set N (dcell (ps.set r (kk, v)) room), 0) := by
 have hl := (List.getElem?_eq_some_iff.1 hv).1; have := (D.step (2 * r + 2) (by simp [dItems_length ps room h]; omega) v hm).1; rw [show ((2 * r + 2 : Nat) : Int) = 2 * (r : Int) + 2 by omega] at this; simp only [dItems_set ps room r h kk v u hv] at this; exact this
theorem set_zero {ps : List (O × O)} {room : Nat} (D : DicAt L N (dcell ps room)) (h : ps.length ≤ room) (hr : room ≤ 1000) : setH L (dicO N) 0 (numO ps.length) = (L, 0) := by
 have := (D.step 0 (by simp [dItems_length ps room h]) (numO ps.length) (may_num _ _ (by omega) (by omega))).1
 have e : (dItems ps room).set 0 (numO ps.length) = dItems ps room := by simp [dItems]
 simp only [e] at this; rw [show (((0 : Nat) : Int)) = 0 from rfl] at this; rw [this]
 have e2 : L.set N (dcell ps room) = L := by
  apply List.ext_getElem?
  intro j; rw [List.getElem?_set]
  by_cases hj : N = j
  · subst hj; rw [if_pos rfl, if_pos D.lt]; exact D.cell.symm
  · rw [if_neg hj]
 rw [e2]
set_option maxRecDepth 100000 in
set_option maxHeartbeats 4000000 in
theorem at_dfull (A : Ats w0 w ((hp, L) :: M) K) (N : Nat) (ps : List (O × O)) (room : Nat) (D : DicAt L N (dcell ps room)) (h : ps.length ≤ room) (hr : room ≤ 1000) :
 Calls Tryz.prog 60 #[ptr hp, (dicO N).val] w fun x w' => x = .returned (.int .i64 20) ∧ Ats w0 w' ((hp, L) :: M) K := by
 have e0 : (dcell ps room).items[(0 : Int).toNat]? = some (numO ps.length) := by simp [dItems]
 have S2 := D.get 0 (by omega) _ e0; have S3 := set_zero D h hr; have A1 := A.alloc (.cells #[.int .i64 10, .bool false, .int .i64 N, .int .i64 0, .int .i64 0, .string ⟨#[]⟩] 39); go_enter Tryz.func60, Tryz.ntmps60
 go_wp2_with fail
 refine (at_get A1 _ _ S2 (List.mem_cons_self ..)).mono ?_; rintro x w2 ⟨rfl, A2⟩; have R3 := cells_of (A2.box _ (List.mem_cons_self ..)); have l3 := blk_lt (A2.box _ (List.mem_cons_self ..)); simp only at l3; clear A1; go_wp2_with fail
 refine (at_set (A2.alloc _) _ _ _ S3).mono ?_; rintro x w3 ⟨rfl, A3⟩; clear R3 A2; go_wp2
 go_ret; exact ⟨rfl, (A3.keep (List.sublist_cons_self _ _)).keep (List.sublist_cons_self _ _)⟩
set_option maxRecDepth 100000 in
set_option maxHeartbeats 8000000 in
theorem at_dset (A : Ats w0 w ((hp, L) :: M) K) (N : Nat) (ps : List (O × O)) (room : Nat) (D : DicAt L N (dcell ps room)) (h : ps.length ≤ room) (hr : room ≤ 1000) (hf : ps.length < 256)
 (k v : O) {key : O} (hk : keyD L k = (key, 0)) (hmv : mayH L v = true) (hmk : mayH L key = true) (r : Nat) (b : Bool) (hp1 : PlaceS ps key r b) {L' : List C} {e : Int}
 (hc : (b = true ∧ e = 0 ∧ ∃ kk u, ps[r]? = some (kk, u) ∧ L' = L.set N (dcell (ps.set r (kk, v)) room)) ∨ (b = false ∧ ps.length < room ∧ e = 0 ∧ L' = L.set N (dcell (ps ++ [(key, v)]) room)) ∨ (b = false ∧ ps.length = room ∧ e = 20 ∧ L' = L)) :
 Calls Tryz.prog 27 #[ptr hp, (dicO N).val, k.val, v.val] w fun x w' => x = .returned (.int .i64 e) ∧ Ats w0 w' ((hp, L') :: M) K := by
 have HL := fun {w' : World} {K' : List (Nat × Obj)} (A' : Ats w0 w' ((hp, L) :: M) K') => at_look A' (List.mem_cons_self ..) N ps room D h hr hf k hk r b (fun _ => hp1) (fun z => absurd rfl z); have HM := fun {w' : World} {K' : List (Nat × Obj)} (A' : Ats w0 w' ((hp, L) :: M) K') => at_may A' v hmv (List.mem_cons_self ..); have HF := fun {w' : World} {K' : List (Nat × Obj)} (A' : Ats w0 w' ((hp, L) :: M) K') => at_dfull A' N ps room D h hr; have HT := fun (r : Nat) (kk u : O) (hv : ps[r]? = some (kk, u)) => set_there D h r kk u v hv hmv
 have hr1 : r ≤ ps.length := by
  rcases hp1 with ⟨-, ⟨p, hp, -⟩, -⟩ | ⟨-, h0, -⟩
  · have := (List.getElem?_eq_some_iff.1 hp).1; omega
  · omega
 have hri : (r : Int) ≤ 1000 := by omega
 have hli : (ps.length : Int) ≤ 1000 := by omega
 have hN := ps.length < room → (∃ L1 L2, setH L (dicO N) (2 * (ps.length : Int) + 1) key = (L1, 0) ∧ setH L1 (dicO N) (2 * (ps.length : Int) + 2) v = (L2, 0) ∧ setH L2 (dicO N) 0 (numO ((ps.length : Int) + 1)) = (L.set N (dcell (ps ++ [(key, v)]) room), 0))
 have HN : ps.length < room → (∃ L1 L2, setH L (dicO N) (2 * (ps.length : Int) + 1) key = (L1, 0) ∧ setH L1 (dicO N) (2 * (ps.length : Int) + 2) v = (L2, 0) ∧ setH L2 (dicO N) 0 (numO ((ps.length : Int) + 1)) = (L.set N (dcell (ps ++ [(key, v)]) room), 0)) := fun hlt => by
  have hdl := dItems_length ps room h; obtain ⟨s1, D1, m1⟩ := D.step (2 * ps.length + 1) (by simp [hdl]; omega) key hmk; obtain ⟨s2, D2, m2⟩ := D1.step (2 * ps.length + 2) (by simp [hdl]; omega) v (by rw [m1]; exact hmv); obtain ⟨s3, -, -⟩ := D2.step 0 (by simp [hdl]) (numO ((ps.length : Int) + 1)) (may_num _ _ (by omega) (by omega)); rw [show ((2 * ps.length + 1 : Nat) : Int) = 2 * (ps.length : Int) + 1 by omega] at s1; rw [show ((2 * ps.length + 2 : Nat) : Int) = 2 * (ps.length : Int) + 2 by omega] at s2; simp only [set_set_same, dItems_push ps room hlt key v] at s3; exact ⟨_, _, s1, s2, by rw [set_set_same]; exact s3⟩
 clear hN hk hmv hmk hp1 D h; obtain ⟨kk, kx, kn, kp, kl, ks⟩ := k; obtain ⟨ck, cx, cn, cp, cl, cs⟩ := key; obtain ⟨vk, vx, vn, vp, vl, vs⟩ := v; have A1 := ((A.alloc (.cells #[.int .i64 10, .bool false, .int .i64 N, .int .i64 0, .int .i64 0, .string ⟨#[]⟩] 39)).alloc (.cells #[.int .i64 kk, .bool kx, .int .i64 kn, .int .i64 kp, .int .i64 kl, .string ks] 39)).alloc (.cells #[.int .i64 vk, .bool vx, .int .i64 vn, .int .i64 vp, .int .i64 vl, .string vs] 39); simp only [World.size_alloc] at A1; have HC := Hid.mk' hc; clear hc; go_enter Tryz.func27, Tryz.ntmps27
 go_wp2_with fail
 refine (HL A1).mono ?_; rintro x w2 ⟨rfl, A2⟩; have R7 := cells_of (A2.box _ (List.mem_cons_self ..)); have l7 := blk_lt (A2.box _ (List.mem_cons_self ..)); simp only at l7; clear HL A1; go_wp2_with fail
 have A3 := A2.alloc (.cells (foundC ⟨ck, cx, cn, cp, cl, cs⟩ r ps.length room b) 124); refine (HM A3).mono ?_; rintro x w3 ⟨rfl, A4⟩; have R9 := cells_of (A4.box _ (List.mem_cons_self ..)); have R7' := cells_of (A4.box _ (List.mem_cons_of_mem _ (List.mem_cons_self ..))); have R5 := cells_of (A4.box _ (List.mem_cons_of_mem _ (List.mem_cons_of_mem _ (List.mem_cons_of_mem _ (List.mem_cons_self ..))))); clear R7 A2 A3 HM
 rcases HC.out with ⟨rfl, rfl, u1, u2, hu, rfl⟩ | ⟨rfl, hlt, rfl, rfl⟩ | ⟨rfl, heq, rfl, rfl⟩
 · have S := HT r u1 u2 hu; clear HT HN HF; go_wp2_with fail
   refine (at_set A4 _ _ _ S).mono ?_; rintro x w4 ⟨rfl, A5⟩; go_wp2
   go_ret; exact ⟨rfl, A5.loses (K1 := [_, _, _, _]) (Chg.refl _ _)⟩
 · obtain ⟨L1, L2, s1, s2, s3⟩ := HN hlt
   have hlt' : (ps.length : Int) < room := by omega
   clear HT HN HF; go_wp2_with fail
   refine (at_set A4 _ _ _ s1).mono ?_; rintro x w4 ⟨rfl, A5⟩; clear R9 R7' R5 A4; have R9 := cells_of (A5.box _ (List.mem_cons_self ..)); have R7' := cells_of (A5.box _ (List.mem_cons_of_mem _ (List.mem_cons_self ..))); have R5 := cells_of (A5.box _ (List.mem_cons_of_mem _ (List.mem_cons_of_mem _ (List.mem_cons_of_mem _ (List.mem_cons_self ..))))); go_wp2_with fail
   refine (at_set A5 _ _ _ s2).mono ?_; rintro x w5 ⟨rfl, A6⟩; clear R9 R7' R5 A5; have R9 := cells_of (A6.box _ (List.mem_cons_self ..)); have R5 := cells_of (A6.box _ (List.mem_cons_of_mem _ (List.mem_cons_of_mem _ (List.mem_cons_of_mem _ (List.mem_cons_self ..))))); go_wp2_with fail
   refine (at_set A6 _ _ _ s3).mono ?_; rintro x w6 ⟨rfl, A7⟩; clear R9 R5 A6; go_wp2
   go_ret; exact ⟨rfl, A7.loses (K1 := [_, _, _, _]) (Chg.refl _ _)⟩
 · have hle : (room : Int) ≤ ps.length := by omega
   clear HT HN; go_wp2_with fail
   refine (HF A4).mono ?_; rintro x w4 ⟨rfl, A5⟩; go_wp2
   go_ret; exact ⟨rfl, A5.loses (K1 := [_, _, _, _]) (Chg.refl _ _)⟩
theorem may_str (L : List C) (N : Nat) (s : ByteArray) (ex : Bool) (hc : L[N]? = some (txt s.toList)) (hN : N ≤ 40000) (hs : s.size ≤ 40000) : mayH L ⟨8, ex, N, 0, s.size, ⟨#[]⟩⟩ = true := by
 have hl := (List.getElem?_eq_some_iff.1 hc).1; have hz := size_toList s; simp [mayH, held, mayO, eqO, bareO, O.nil, hc, C.kind, C.size, hz]
 omega
theorem bytes_str (L : List C) (N : Nat) (s : ByteArray) (ex : Bool) (hc : L[N]? = some (txt s.toList)) (hN : N ≤ 40000) (hs : s.size ≤ 40000) : bytesH L ⟨8, ex, N, 0, s.size, ⟨#[]⟩⟩ = (s, 0) := by
 have hm := may_str L N s ex hc hN hs; have hz := size_toList s
 have hf : findE L ⟨8, ex, N, 0, s.size, ⟨#[]⟩⟩ = 0 := by simp [findE, hm, held]
 unfold bytesH; rw [hf]; simp only [ne_eq, not_true_eq_false, if_false, Int.toNat_natCast, hc, if_true, atOf, lenOf]; rw [if_neg (by decide), if_neg (by decide), Int.toNat_zero, List.drop_zero, Int.toNat_natCast, List.take_of_length_le (by omega), ofList]
theorem may_name (L : List C) (s : ByteArray) (ex : Bool) (hs : s.size ≤ 100) : mayH L ⟨5, ex, 0, 0, 0, s⟩ = true := by
 simp [mayH, held, mayO, eqO, bareO, O.nil]
 omega
theorem key_name (L : List C) (s : ByteArray) (ex : Bool) (hs : s.size ≤ 100) : keyD L ⟨5, ex, 0, 0, 0, s⟩ = (⟨5, false, 0, 0, 0, s⟩, 0) := by
 unfold keyD; rw [may_name L s ex hs]; simp [unO]
theorem same_name (s t : ByteArray) : sameO ⟨5, false, 0, 0, 0, s⟩ ⟨5, false, 0, 0, 0, t⟩ = decide (s = t) := by
 unfold sameO
 have h : (sizeO ⟨5, false, 0, 0, 0, s⟩).2 = false := by unfold sizeO; split <;> simp
 rw [if_neg (by rw [h]; simp)]; simp [eqO, unO]
theorem dict_new (L : List C) (room : Nat) (h1 : L.length < 2000) (hr : room ≤ 1000) (h2 : used L + (2 * room + 1) ≤ 40000) : dictH L (room : Int) = (L ++ [dcell [] room], dicO L.length, 0) := by
 have hc : (⟨false, true, false, ⟨3, false, 0, 0, 0, ⟨#[]⟩⟩ :: List.replicate (2 * (room : Int).toNat) nullO, []⟩ : C) = dcell [] room := by simp [dItems, pairsL]
 unfold dictH; rw [if_neg (by omega), hc, add_fits _ _ h1 (by simp [C.size, dItems_length [] room (by simp)]; omega)]; simp [objOf, C.kind]
end Go.Proofs.YtoogmimbmgdflaaGreat
