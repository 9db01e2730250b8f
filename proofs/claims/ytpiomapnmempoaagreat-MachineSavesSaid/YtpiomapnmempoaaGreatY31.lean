/- Parts of the proof: Arp. -/
import Derived.Test.YtpiomapnmempoaaGreatY07
import Derived.Test.YtpiomapnmempoaaGreatY09
namespace Go.Proofs.YtpiomapnmempoaaGreat
open Go.RowKit
variable {L : List C} {N : Nat} {is : List O}
abbrev rowC (is : List O) : C := ⟨false, false, false, is, []⟩
abbrev arN (N z : Int) : O := ⟨9, false, N, 0, z, ⟨#[]⟩⟩
theorem mayO_arr (N z : Int) (h0 : 0 ≤ N) (h1 : N ≤ 40000) (hz : 0 ≤ z) (hz' : z ≤ 40000) : mayO (arN N z) = true := by
 simp [mayO, eqO, bareO, O.nil]; omega
theorem may_a (hc : L[N]? = some (rowC is)) (hN : N ≤ 40000) (hs : is.length ≤ 40000) (z : Int) (hz : z = is.length) : mayH L (arN N z) = true := by
 have hl := (List.getElem?_eq_some_iff.1 hc).1; unfold mayH; rw [mayO_arr N z (by omega) (by omega) (by omega) (by omega)]; simp [held, hc, C.kind, C.size]
 omega
theorem find_a (hc : L[N]? = some (rowC is)) (hN : N ≤ 40000) (hs : is.length ≤ 40000) (z : Int) (hz : z = is.length) : findE L (arN N z) = 0 := by
 simp [findE, may_a hc hN hs z hz, held]
theorem items_a (hc : L[N]? = some (rowC is)) (hN : N ≤ 40000) (hs : is.length ≤ 40000) (z : Int) (hz : z = is.length) : itemsH L (arN N z) = (is, 0) := by
 subst hz; unfold itemsH; rw [find_a hc hN hs _ rfl]; simp [lenOf, atOf, hc]
theorem set_a (hc : L[N]? = some (rowC is)) (hN : N ≤ 40000) (hs : is.length ≤ 40000) (z : Int) (hz : z = is.length) (i : Nat) (hi : i < is.length) (x : O) (hx : mayH L x = true) : setH L (arN N z) i x = (L.set N (rowC (is.set i x)), 0) := by
 unfold setH; rw [find_a hc hN hs z hz]; simp only [ne_eq, not_true_eq_false, if_false, Int.toNat_natCast, hc, lenOf, atOf]
 have e9 : (9 : Int) = 10 ↔ False := by decide
 simp only [e9, if_false, if_neg (show ¬ ((i : Int) < 0 ∨ z ≤ i) by omega), Bool.false_eq_true, hx, Int.zero_add, Int.toNat_natCast]; simp
theorem array_a (L : List C) (n : Nat) (h1 : L.length < 2000) (h2 : used L + n ≤ 40000) : arrayH L n = (L ++ [rowC (List.replicate n nullO)], arN L.length n, 0) := by
 unfold arrayH; rw [if_neg (by omega), if_neg (by omega), add_fits _ _ h1 (by simp [C.size]; omega)]; simp [objOf, C.kind, C.size]
theorem set_last (L : List C) (c d : C) : (L ++ [c]).set L.length d = L ++ [d] := by
 rw [List.set_append_right _ _ (Nat.le_refl _), Nat.sub_self]; rfl
theorem may_int (L : List C) (v : Int) (h : mayO (iO v) = true) : mayH L (iO v) = true := by
 unfold mayH; rw [h]; rfl
def filled (xs : List O) (n k : Nat) : List O := xs.take k ++ List.replicate (n - k) nullO
theorem filled_length (xs : List O) (n k : Nat) (h : xs.length = n) (hk : k ≤ n) : (filled xs n k).length = n := by
 simp [filled]; omega
theorem filled_set (xs : List O) (n k : Nat) (h : xs.length = n) (o : O) (ho : xs[k]? = some o) : (filled xs n k).set k o = filled xs n (k + 1) := by
 have hk : k < xs.length := (List.getElem?_eq_some_iff.1 ho).1
 have e : xs.take (k + 1) = xs.take k ++ [o] := by rw [List.take_add_one, ho]; rfl
 unfold filled; rw [List.set_append_right _ _ (by simp; omega), e, show n - k = (n - (k + 1)) + 1 by omega, List.replicate_succ, List.append_assoc]; have hm : min k xs.length = k := Nat.min_eq_left (Nat.le_of_lt hk); simp [hm]
theorem filled_all (xs : List O) (n : Nat) (h : xs.length = n) : filled xs n n = xs := by
 simp [filled, ← h]
theorem filled_none (xs : List O) (n : Nat) : filled xs n 0 = List.replicate n nullO := by simp [filled]
end Go.Proofs.YtpiomapnmempoaaGreat
