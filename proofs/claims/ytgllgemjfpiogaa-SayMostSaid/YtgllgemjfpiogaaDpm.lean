/- What the heap's methods answer at a dictionary; Size and May on a heap that a law made. -/
import Derived.Test.YtgllgemjfpiogaaDpl
namespace Go.Proofs.Ytgllgemjfpiogaa
open Go.RowKit

/-- A cell that is a dictionary's, at place N. -/
structure DicAt (L : List C) (N : Nat) (c : C) : Prop where
  cell : L[N]? = some c
  text : c.text = false
  dict : c.dict = true
  free : c.locked = false
  room : c.items.length ≤ 40000
  place : N ≤ 40000
theorem DicAt.size {L : List C} {N : Nat} {c : C} (D : DicAt L N c) : c.size = c.items.length := by simp [C.size, D.text]
theorem DicAt.kind {L : List C} {N : Nat} {c : C} (D : DicAt L N c) : c.kind = 10 := by simp [C.kind, D.text, D.dict]
theorem DicAt.lt {L : List C} {N : Nat} {c : C} (D : DicAt L N c) : N < L.length := (List.getElem?_eq_some_iff.1 D.cell).1
theorem DicAt.may {L : List C} {N : Nat} {c : C} (D : DicAt L N c) : mayH L (dicO N) = true := by
  have h1 := D.cell
  have h2 := D.lt
  have h3 := D.place
  have h4 := D.kind
  simp [mayH, held, mayO, eqO, bareO, O.nil, h1, h4]
  omega
theorem DicAt.find {L : List C} {N : Nat} {c : C} (D : DicAt L N c) : findE L (dicO N) = 0 := by
  have := D.may
  simp [findE, this, held]
theorem DicAt.sizeOf {L : List C} {N : Nat} {c : C} (D : DicAt L N c) : sizeH L (dicO N) = ((c.items.length : Int), 0) := by
  have h1 := D.cell
  have h2 := D.size
  unfold sizeH
  rw [D.find]
  simp [h1, lenOf, h2]
theorem DicAt.get {L : List C} {N : Nat} {c : C} (D : DicAt L N c) (i : Int) (h0 : 0 ≤ i) (x : O) (hx : c.items[i.toNat]? = some x) : getH L (dicO N) i = (x, 0) := by
  have h1 := D.cell
  have h2 := D.size
  have h3 := D.text
  have hl := (List.getElem?_eq_some_iff.1 hx).1
  unfold getH
  rw [D.find]
  simp only [ne_eq, not_true_eq_false, if_false, Int.toNat_natCast, h1, lenOf, if_true, h2, h3, atOf, Int.zero_add, Bool.false_eq_true]
  rw [if_neg (by omega), List.getD_eq_getElem?_getD, hx]; rfl
theorem DicAt.set {L : List C} {N : Nat} {c : C} (D : DicAt L N c) (i : Int) (h0 : 0 ≤ i) (h1 : i < c.items.length) (x : O) (hx : mayH L x = true) :
    setH L (dicO N) i x = (L.set N { c with items := c.items.set i.toNat x }, 0) := by
  have e1 := D.cell
  have e2 := D.size
  have e3 := D.text
  have e4 := D.free
  unfold setH
  rw [D.find]
  simp only [ne_eq, not_true_eq_false, if_false, Int.toNat_natCast, e1, lenOf, if_true, e2, e3, e4, atOf, Int.zero_add, Bool.false_eq_true, hx, Bool.true_eq_false]
  rw [if_neg (by omega)]
theorem DicAt.items {L : List C} {N : Nat} {c : C} (D : DicAt L N c) : itemsH L (dicO N) = (c.items, 0) := by
  have e1 := D.cell
  have e2 := D.size
  have e3 := D.text
  unfold itemsH
  rw [D.find]
  simp [e1, lenOf, e2, e3, atOf]
/-- A cell that is put in its place. -/
theorem DicAt.put {L : List C} {N : Nat} {c : C} (D : DicAt L N c) (c' : C) (h1 : c'.text = false) (h2 : c'.dict = true) (h3 : c'.locked = false) (h4 : c'.items.length = c.items.length) : DicAt (L.set N c') N c' :=
  ⟨by rw [List.getElem?_set, if_pos rfl, if_pos D.lt], h1, h2, h3, by rw [h4]; exact D.room, D.place⟩
theorem may_put (L : List C) (N : Nat) (c c' : C) (hc : L[N]? = some c) (hk : c'.kind = c.kind) (hs : c'.size = c.size) (o : O) : mayH (L.set N c') o = mayH L o := by
  unfold mayH
  congr 2
  simp only [List.length_set, List.getElem?_set]
  by_cases e : N = o.n.toNat
  · have hl := (List.getElem?_eq_some_iff.1 hc).1
    rw [if_pos e, if_pos hl, ← e, hc]; simp only [hk, hs]
  · rw [if_neg e]
theorem set_set_same (L : List C) (N : Nat) (c c' : C) : (L.set N c).set N c' = L.set N c' := by simp

theorem at_size {w0 w : World} {hp : Nat} {L : List C} {M : List (Nat × List C)} {K : List (Nat × Obj)} (A : Ats w0 w M K) (o : O) {n e : Int} (hr : sizeH L o = (n, e)) (hm : (hp, L) ∈ M) :
    Calls Try.prog 68 #[ptr hp, o.val] w fun r w' => r = .returned (.tuple #[.int .i64 n, .int .i64 e]) ∧ Ats w0 w' M K :=
  A.asks hm fun h h1 h2 H => by subst h1 h2; have := hsize_any h o w H; rwa [hr] at this
theorem at_may {w0 w : World} {hp : Nat} {L : List C} {M : List (Nat × List C)} {K : List (Nat × Obj)} (A : Ats w0 w M K) (o : O) {b : Bool} (hr : mayH L o = b) (hm : (hp, L) ∈ M) :
    Calls Try.prog 37 #[ptr hp, o.val] w fun r w' => r = .returned (.bool b) ∧ Ats w0 w' M K :=
  A.asks hm fun h h1 h2 H => by subst h1 h2; have := hmay_any h o w H; rwa [hr] at this
end Go.Proofs.Ytgllgemjfpiogaa
