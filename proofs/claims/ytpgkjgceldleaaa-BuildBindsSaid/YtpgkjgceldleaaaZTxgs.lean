/- Plain: texts anywhere in a heap: parts, bytes, Set, Put. -/
import Derived.Test.YtpgkjgceldleaaaZHeapd
import Derived.Test.YtpgkjgceldleaaaZHeapc
namespace Go.Proofs.Ytpgkjgceldleaaa
open Go.RowKit

abbrev strN (N : Int) (x : Bool) (p z : Int) : O := ⟨8, x, N, p, z, ⟨#[]⟩⟩
theorem mayO_str (N p z : Int) (x : Bool) (h0 : 0 ≤ N) (h1 : N ≤ 40000) (hp : 0 ≤ p) (hp' : p ≤ 40000) (hz : 0 ≤ z) (hz' : z ≤ 40000) : mayO (strN N x p z) = true := by
  simp [mayO, eqO, bareO, O.nil]; omega
theorem may_s {L : List C} {N : Nat} {bs : List UInt8} (hc : L[N]? = some (txt bs)) (hN : N ≤ 40000) (hs : bs.length ≤ 40000) (x : Bool) (p z : Int) (hp : 0 ≤ p) (hz : 0 ≤ z) (h : p + z ≤ bs.length) : mayH L (strN N x p z) = true := by
  have hl := (List.getElem?_eq_some_iff.1 hc).1
  unfold mayH
  rw [mayO_str N p z x (by omega) (by omega) hp (by omega) hz (by omega)]
  simp [held, hc, C.kind, C.size]
  omega
theorem find_s {L : List C} {N : Nat} {bs : List UInt8} (hc : L[N]? = some (txt bs)) (hN : N ≤ 40000) (hs : bs.length ≤ 40000) (x : Bool) (p z : Int) (hp : 0 ≤ p) (hz : 0 ≤ z) (h : p + z ≤ bs.length) : findE L (strN N x p z) = 0 := by
  simp [findE, may_s hc hN hs x p z hp hz h, held]
theorem part_s {L : List C} {N : Nat} {bs : List UInt8} (hc : L[N]? = some (txt bs)) (hN : N ≤ 40000) (hs : bs.length ≤ 40000) (x : Bool) (p z i n : Int) (hp : 0 ≤ p) (hz : 0 ≤ z) (h : p + z ≤ bs.length) (hi : 0 ≤ i) (hn : 0 ≤ n) (h2 : i + n ≤ z) :
    partH L (strN N x p z) i n = (strN N x (p + i) n, 0) := by
  unfold partH
  rw [find_s hc hN hs x p z hp hz h]
  simp only [ne_eq, not_true_eq_false, if_false]
  rw [if_neg (by decide), if_neg (by omega)]
theorem part_sE {L : List C} {N : Nat} {bs : List UInt8} (hc : L[N]? = some (txt bs)) (hN : N ≤ 40000) (hs : bs.length ≤ 40000) (x : Bool) (p z i n : Int) (hp : 0 ≤ p) (hz : 0 ≤ z) (h : p + z ≤ bs.length) (h2 : ¬ (0 ≤ i ∧ 0 ≤ n ∧ i ≤ z ∧ n ≤ z - i)) :
    partH L (strN N x p z) i n = (O.nil, 12) := by
  unfold partH
  rw [find_s hc hN hs x p z hp hz h]
  simp only [ne_eq, not_true_eq_false, if_false]
  rw [if_neg (by decide), if_pos h2]
theorem bytes_s {L : List C} {N : Nat} {bs : List UInt8} (hc : L[N]? = some (txt bs)) (hN : N ≤ 40000) (hs : bs.length ≤ 40000) (x : Bool) (p z : Int) (hp : 0 ≤ p) (hz : 0 ≤ z) (h : p + z ≤ bs.length) :
    bytesH L (strN N x p z) = (⟨((bs.drop p.toNat).take z.toNat).toArray⟩, 0) := by
  unfold bytesH
  rw [find_s hc hN hs x p z hp hz h]
  simp [lenOf, atOf, hc]
theorem set_s {L : List C} {N : Nat} {bs : List UInt8} (hc : L[N]? = some (txt bs)) (hN : N ≤ 40000) (hs : bs.length ≤ 40000) (x : Bool) (p z i v : Int) (hp : 0 ≤ p) (hz : 0 ≤ z) (h : p + z ≤ bs.length) (hi : 0 ≤ i) (h2 : i < z) (v0 : 0 ≤ v) (v1 : v < 256) :
    setH L (strN N x p z) i (iO v) = (L.set N (txt (bs.set (p + i).toNat (UInt8.ofNat v.toNat))), 0) := by
  unfold setH
  rw [find_s hc hN hs x p z hp hz h]
  simp only [ne_eq, not_true_eq_false, if_false, Int.toNat_natCast, hc, lenOf, atOf]
  have e8 : (8 : Int) = 10 ↔ False := by decide
  simp only [e8, if_false, if_true, Bool.false_eq_true, if_neg (show ¬ (i < 0 ∨ z ≤ i) by omega), if_neg (show ¬ (v < 0 ∨ 255 < v) by omega)]
theorem str_s (L : List C) (s : ByteArray) (h1 : L.length < 2000) (h2 : used L + s.size ≤ 40000) : stringH L s = (L ++ [txt s.toList], strN L.length false 0 s.size, 0) := by
  unfold stringH
  rw [if_neg (by omega), add_fits _ _ h1 (by rw [txt_size, size_toList]; exact h2)]
  simp [objOf, C.kind, C.size, size_toList]
end Go.Proofs.Ytpgkjgceldleaaa
