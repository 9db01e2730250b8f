/- Dn, Ds, Dp, Dy -/
import Derived.Test.YtaagobmnogmofaaZDicta
import Derived.Test.YtaagobmnogmofaaZHeapc
/- dict.New and Get, on a heap that a law made. -/
namespace Go.Proofs.Ytaagobmnogmofaa
open Go.RowKit
theorem get_pair {lk : Bool} {L : List C} {N : Nat} {ps : List (O × O)} {room : Nat} (D : DicAt L N (dcellk lk ps room)) (h : ps.length ≤ room) (r : Nat) (kk v : O) (hv : ps[r]? = some (kk, v)) : getH L (dicO N) (2 * (r : Int) + 2) = (v, 0) := D.get _ (by omega) _ (by
  have hl := (List.getElem?_eq_some_iff.1 hv).1
  rw [show (2 * (r : Int) + 2).toNat = 2 * r + 2 by omega, dItems_at ps room h _ (by omega), if_neg (by omega), show (2 * r + 2 - 1) / 2 = r by omega, hv]
  have : ¬ (2 * r + 2) % 2 = 1 := by omega
  simp)

end Go.Proofs.Ytaagobmnogmofaa
/- dict.Set and Pairs, on a heap that a law made. -/
namespace Go.Proofs.Ytaagobmnogmofaa
open Go.RowKit

theorem may_num (L : List C) (v : Int) (h : -2147483647 ≤ v) (h' : v ≤ 2147483647) : mayH L (numO v) = true := by
  simp [mayH, held, mayO, eqO, bareO, O.nil]
  omega
theorem DicAt.step {L : List C} {N : Nat} {c : C} (D : DicAt L N c) (i : Nat) (hi : i < c.items.length) (x : O) (hx : mayH L x = true) (hf : c.locked = false := by rfl) :
    setH L (dicO N) (i : Int) x = (L.set N { c with items := c.items.set i x }, 0) ∧ DicAt (L.set N { c with items := c.items.set i x }) N { c with items := c.items.set i x } ∧ ∀ o, mayH (L.set N { c with items := c.items.set i x }) o = mayH L o := by
  refine ⟨?_, D.put _ D.text D.dict D.free (by simp), fun o => may_put L N c { c with items := c.items.set i x } D.cell rfl (by simp [C.size, D.text]) o⟩
  have := D.set (i : Int) (by omega) (by omega) x hx hf
  rwa [Int.toNat_natCast] at this
theorem set_there {L : List C} {N : Nat} {ps : List (O × O)} {room : Nat} (D : DicAt L N (dcell ps room)) (h : ps.length ≤ room) (r : Nat) (kk u v : O) (hv : ps[r]? = some (kk, u)) (hm : mayH L v = true) :
    setH L (dicO N) (2 * (r : Int) + 2) v = (L.set N (dcell (ps.set r (kk, v)) room), 0) := by
  have hl := (List.getElem?_eq_some_iff.1 hv).1
  have := (D.step (2 * r + 2) (by simp [dItems_length ps room h]; omega) v hm).1
  rw [show ((2 * r + 2 : Nat) : Int) = 2 * (r : Int) + 2 by omega] at this
  simp only [dItems_set ps room r h kk v u hv] at this
  exact this
theorem set_zero {L : List C} {N : Nat} {ps : List (O × O)} {room : Nat} (D : DicAt L N (dcell ps room)) (h : ps.length ≤ room) (hr : room ≤ 1000) : setH L (dicO N) 0 (numO ps.length) = (L, 0) := by
  have := (D.step 0 (by simp [dItems_length ps room h]) (numO ps.length) (may_num _ _ (by omega) (by omega))).1
  have e : (dItems ps room).set 0 (numO ps.length) = dItems ps room := by simp [dItems]
  simp only [e] at this
  rw [show (((0 : Nat) : Int)) = 0 from rfl] at this
  rw [this]
  have e2 : L.set N (dcell ps room) = L := by
    apply List.ext_getElem?
    intro j
    rw [List.getElem?_set]
    by_cases hj : N = j
    · subst hj; rw [if_pos rfl, if_pos D.lt]; exact D.cell.symm
    · rw [if_neg hj]
  rw [e2]

end Go.Proofs.Ytaagobmnogmofaa
/- dict.Pairs, on a heap that a law made. -/
namespace Go.Proofs.Ytaagobmnogmofaa
open Go.RowKit
/-! ### Keys -/
theorem may_str (L : List C) (N : Nat) (s : ByteArray) (ex : Bool) (hc : L[N]? = some (txt s.toList)) (hN : N ≤ 40000) (hs : s.size ≤ 40000) : mayH L ⟨8, ex, N, 0, s.size, ⟨#[]⟩⟩ = true := by
  have hl := (List.getElem?_eq_some_iff.1 hc).1
  have hz := size_toList s
  simp [mayH, held, mayO, eqO, bareO, O.nil, hc, C.kind, C.size, hz]
  omega
theorem bytes_str (L : List C) (N : Nat) (s : ByteArray) (ex : Bool) (hc : L[N]? = some (txt s.toList)) (hN : N ≤ 40000) (hs : s.size ≤ 40000) : bytesH L ⟨8, ex, N, 0, s.size, ⟨#[]⟩⟩ = (s, 0) := by
  have hm := may_str L N s ex hc hN hs
  have hz := size_toList s
  have hf : findE L ⟨8, ex, N, 0, s.size, ⟨#[]⟩⟩ = 0 := by simp [findE, hm, held]
  unfold bytesH
  rw [hf]
  simp only [ne_eq, not_true_eq_false, if_false, Int.toNat_natCast, hc, if_true, atOf, lenOf]
  rw [if_neg (by decide), if_neg (by decide), Int.toNat_zero, List.drop_zero, Int.toNat_natCast, List.take_of_length_le (by omega), ofList]
theorem key_str (L : List C) (N : Nat) (s : ByteArray) (ex : Bool) (hc : L[N]? = some (txt s.toList)) (hN : N ≤ 40000) (hs : s.size ≤ 40000) :
    keyD L ⟨8, ex, N, 0, s.size, ⟨#[]⟩⟩ = if 100 < (s.size : Int) then (O.nil, 5) else (⟨5, false, 0, 0, 0, s⟩, 0) := by
  unfold keyD
  rw [may_str L N s ex hc hN hs, bytes_str L N s ex hc hN hs]
  simp
theorem may_name (L : List C) (s : ByteArray) (ex : Bool) (hs : s.size ≤ 100) : mayH L ⟨5, ex, 0, 0, 0, s⟩ = true := by
  simp [mayH, held, mayO, eqO, bareO, O.nil]
  omega
theorem key_name (L : List C) (s : ByteArray) (ex : Bool) (hs : s.size ≤ 100) : keyD L ⟨5, ex, 0, 0, 0, s⟩ = (⟨5, false, 0, 0, 0, s⟩, 0) := by
  unfold keyD
  rw [may_name L s ex hs]
  simp [unO]
theorem key_num (L : List C) (v : Int) (h : -2147483647 ≤ v) (h' : v ≤ 2147483647) : keyD L (numO v) = (numO v, 0) := by
  unfold keyD
  rw [may_num L v h h']
  simp [unO]
theorem key_null (L : List C) : keyD L nullO = (O.nil, 6) := by simp [keyD, nullO]
theorem same_name (s t : ByteArray) : sameO ⟨5, false, 0, 0, 0, s⟩ ⟨5, false, 0, 0, 0, t⟩ = decide (s = t) := by
  unfold sameO
  have h : (sizeO ⟨5, false, 0, 0, 0, s⟩).2 = false := by unfold sizeO; split <;> simp
  rw [if_neg (by rw [h]; simp)]
  simp [eqO, unO]
theorem same_name_num (s : ByteArray) (v : Int) : sameO ⟨5, false, 0, 0, 0, s⟩ (numO v) = false := by
  unfold sameO
  have h : (sizeO ⟨5, false, 0, 0, 0, s⟩).2 = false := by unfold sizeO; split <;> simp
  rw [if_neg (by rw [h]; simp)]
  simp [eqO, unO]
theorem dict_new (L : List C) (room : Nat) (h1 : L.length < 2000) (hr : room ≤ 1000) (h2 : used L + (2 * room + 1) ≤ 40000) : dictH L (room : Int) = (L ++ [dcell [] room], dicO L.length, 0) := by
  have hc : (⟨false, true, false, ⟨3, false, 0, 0, 0, ⟨#[]⟩⟩ :: List.replicate (2 * (room : Int).toNat) nullO, []⟩ : C) = dcell [] room := by simp [dItems, pairsL]
  unfold dictH
  rw [if_neg (by omega), hc, add_fits _ _ h1 (by simp [C.size, dItems_length [] room (by simp)]; omega)]
  simp [objOf, C.kind]
end Go.Proofs.Ytaagobmnogmofaa
/- known of tympanlaw12. -/
namespace Go.Proofs.Ytaagobmnogmofaa
open Go.RowKit

abbrev ka : ByteArray := ⟨#[97]⟩
theorem ka_list : ka.toList = [97] := by rw [ByteArray.toList_eq]
theorem k12_1 : dictH [] 1 = ([dcell [] 1], dicO 0, 0) := dict_new [] 1 (by decide) (by decide) (by decide)
theorem k12_2 : stringH [dcell [] 1] ka = ([dcell [] 1, txt [97]], ⟨8, false, 1, 0, 1, ⟨#[]⟩⟩, 0) := by
  have hs : ka.size = 1 := rfl
  unfold stringH
  rw [hs, if_neg (by omega), ka_list, add_fits _ _ (by simp) (by simp [used, C.size, dItems, pairsL])]
  simp [objOf, C.kind, C.size]
theorem k12_D1 : DicAt [dcell [] 1, txt [97]] 0 (dcell [] 1) := ⟨rfl, rfl, rfl, rfl, by decide, by decide⟩
theorem k12_D2 : DicAt [dcell [(nameO ka, numO 5)] 1, txt [97]] 0 (dcell [(nameO ka, numO 5)] 1) := ⟨rfl, rfl, rfl, rfl, by decide, by decide⟩
theorem k12_k1 : keyD [dcell [] 1, txt [97]] ⟨8, false, 1, 0, 1, ⟨#[]⟩⟩ = (nameO ka, 0) := by
  have := key_str [dcell [] 1, txt [97]] 1 ka false (by rw [ka_list]; rfl) (by decide) (by decide)
  rw [if_neg (by decide)] at this
  exact this
theorem place_nil (k : O) : PlaceS [] k 0 false := .inr ⟨rfl, rfl, fun j p h => by simp at h⟩
theorem place_one (s : ByteArray) (v : O) : PlaceS [(nameO s, v)] (nameO s) 0 true := .inl ⟨rfl, ⟨_, rfl, by rw [same_name]; simp⟩, fun j p h => absurd h (by omega)⟩
theorem place_num (s : ByteArray) (v : O) (n : Int) : PlaceS [(nameO s, v)] (numO n) 0 false := .inr ⟨rfl, rfl, fun j p h => by
  cases j with
  | zero => simp at h; subst h; exact same_name_num s n
  | succ j => simp at h⟩

end Go.Proofs.Ytaagobmnogmofaa
