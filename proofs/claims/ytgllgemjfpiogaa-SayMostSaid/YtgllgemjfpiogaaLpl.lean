/- Plain facts on what a heap answers, for the laws. -/
import Derived.Test.YtgllgemjfpiogaaLkn
namespace Go.Proofs.Ytgllgemjfpiogaa
open Go.RowKit

theorem used_rep (c : C) (k : Nat) : used (List.replicate k c) = k * c.size := by
  induction k with
  | zero => simp [used]
  | succ k ih =>
    have : used (List.replicate (k + 1) c) = c.size + used (List.replicate k c) := by simp [used, List.replicate_succ]
    rw [this, ih, Nat.succ_mul, Nat.add_comm]
theorem empty_bytes : (⟨#[]⟩ : ByteArray).toList = [] := by
  unfold ByteArray.toList ByteArray.toList.loop
  rfl
theorem add_fits (L : List C) (c : C) (h1 : L.length < 2000) (h2 : used L + c.size ≤ 40000) : makeH L c = (L ++ [c], objOf L c, 0) := by
  have : addE L c = 0 := by unfold addE; rw [if_neg (by omega)]
  simp only [makeH, this, ne_eq, not_true_eq_false, if_false]
theorem add_not (L : List C) (c : C) (h : 2000 ≤ L.length ∨ 40000 - used L < c.size) : makeH L c = (L, O.nil, 5) := by
  have : addE L c = 5 := by unfold addE; rw [if_pos h]
  simp only [makeH, this, ne_eq]
  rw [if_pos (by decide)]
abbrev arr (k : Nat) : C := ⟨false, false, false, List.replicate k nullO, []⟩
theorem arr_size (k : Nat) : (arr k).size = k := by simp [C.size]
theorem room_1 (k : Int) (h0 : 0 ≤ k) (h1 : k ≤ 40000) : arrayH [] k = ([arr k.toNat], ⟨9, false, 0, 0, k, ⟨#[]⟩⟩, 0) := by
  unfold arrayH
  rw [if_neg (by omega), if_neg (by omega), add_fits _ _ (by simp) (by rw [arr_size]; simp [used]; omega)]
  simp [objOf, C.kind, C.size]
  omega
theorem row_item {cur : Array Value} {l : List O} (hc : ∀ i, i < l.length * 6 → cur[i]? = (l.flatMap O.cells)[i]?) {j : Nat} {o : O} (h : l[j]? = some o) :
    cur[j * 6]? = some (.int .i64 o.kind) ∧ cur[j * 6 + 1]? = some (.bool o.exec) ∧ cur[j * 6 + 2]? = some (.int .i64 o.n) ∧ cur[j * 6 + 3]? = some (.int .i64 o.pos) ∧ cur[j * 6 + 4]? = some (.int .i64 o.len) ∧ cur[j * 6 + 5]? = some (.string o.s) := by
  have hj : j < l.length := (List.getElem?_eq_some_iff.1 h).1
  have g : ∀ t, t < 6 → cur[j * 6 + t]? = o.cells[t]? := fun t ht => by
    rw [hc _ (by omega), flat_get O.cells 6 cells_length t ht, h]; rfl
  exact ⟨g 0 (by decide), g 1 (by decide), g 2 (by decide), g 3 (by decide), g 4 (by decide), g 5 (by decide)⟩
theorem rep_size (c : C) (hd : c.text = false) : c.size = c.items.length := by simp [C.size, hd]
/-- An array of one cell: any part within it is an object that may be. -/
theorem find_arr (c : C) (k p z : Int) (ht : c.text = false) (hd : c.dict = false) (hl : (c.items.length : Int) = k) (hk : k ≤ 40000) (hp : 0 ≤ p) (hz : 0 ≤ z) (h : p + z ≤ k) : findE [c] ⟨9, false, 0, p, z, ⟨#[]⟩⟩ = 0 := by
  have hs : c.size = c.items.length := by simp [C.size, ht]
  have hm : mayH [c] ⟨9, false, 0, p, z, ⟨#[]⟩⟩ = true := by
    simp [mayH, held, mayO, eqO, bareO, O.nil, hs, C.kind, ht, hd]
    omega
  simp [findE, hm, held]
theorem part_arr (c : C) (k i n : Int) (ht : c.text = false) (hd : c.dict = false) (hl : (c.items.length : Int) = k) (hk : k ≤ 40000) (h0 : 0 ≤ i) (h1 : 0 ≤ n) (h : n ≤ k - i) :
    partH [c] ⟨9, false, 0, 0, k, ⟨#[]⟩⟩ i n = (⟨9, false, 0, i, n, ⟨#[]⟩⟩, 0) := by
  unfold partH
  rw [find_arr c k 0 k ht hd hl hk (by omega) (by omega) (by omega)]
  simp only [ne_eq, not_true_eq_false, if_false]
  rw [if_neg (by decide), if_neg (by omega)]
  simp
theorem set_arr (c : C) (k p z i : Int) (x : O) (ht : c.text = false) (hd : c.dict = false) (hc : c.locked = false) (hl : (c.items.length : Int) = k) (hk : k ≤ 40000) (hp : 0 ≤ p) (hz : 0 ≤ z) (h : p + z ≤ k) (hi : 0 ≤ i) (hi' : i < z) (hx : mayH [c] x = true) :
    setH [c] ⟨9, false, 0, p, z, ⟨#[]⟩⟩ i x = ([{ c with items := c.items.set (p + i).toNat x }], 0) := by
  unfold setH
  rw [find_arr c k p z ht hd hl hk hp hz h]
  simp [lenOf, atOf, hc, ht, hx]
  omega
theorem items_arr (c : C) (k p z : Int) (ht : c.text = false) (hd : c.dict = false) (hl : (c.items.length : Int) = k) (hk : k ≤ 40000) (hp : 0 ≤ p) (hz : 0 ≤ z) (h : p + z ≤ k) :
    itemsH [c] ⟨9, false, 0, p, z, ⟨#[]⟩⟩ = ((c.items.drop p.toNat).take z.toNat, 0) := by
  unfold itemsH
  rw [find_arr c k p z ht hd hl hk hp hz h]
  simp [lenOf, atOf, ht]
end Go.Proofs.Ytgllgemjfpiogaa
