/- The plain law of SayNested: arrays one in the other. -/
import Derived.Test.YtbjlognbaplgpaaZSmp
namespace Go.Proofs.Ytbjlognbaplgpaa
open Go.RowKit

abbrev int7 : O := ⟨3, false, 7, 0, 0, ⟨#[]⟩⟩
abbrev mrkO : O := ⟨6, false, 0, 0, 0, ⟨#[]⟩⟩
abbrev mrkL : List UInt8 := [45, 109, 97, 114, 107, 45]
abbrev arrL : List UInt8 := [45, 97, 114, 114, 97, 121, 45]
def exN (zs : List Bool) (i : Nat) : Bool := zs.getD i false
def oN (zs : List Bool) : Nat → O
  | 0 => int7
  | k + 1 => ⟨9, exN zs k, (k : Int), 0, 2, ⟨#[]⟩⟩
def hN (zs : List Bool) : Nat → List C
  | 0 => []
  | k + 1 => hN zs k ++ [⟨false, false, false, [oN zs k, mrkO], []⟩]
theorem hN_len (zs : List Bool) (k : Nat) : (hN zs k).length = k := by
  induction k with
  | zero => rfl
  | succ k ih => rw [hN, List.length_append, ih]; rfl
theorem hN_used (zs : List Bool) (k : Nat) : used (hN zs k) = 2 * k := by
  induction k with
  | zero => rfl
  | succ k ih => rw [hN, used_cat, ih, used_one]; simp [C.size]; omega
theorem hN_get (zs : List Bool) : ∀ (K k : Nat), k < K → (hN zs K)[k]? = some ⟨false, false, false, [oN zs k, mrkO], []⟩
  | 0, _, h => by omega
  | K + 1, k, h => by
    rw [hN]
    by_cases e : k = K
    · subst e
      rw [List.getElem?_append_right (by rw [hN_len]; omega), hN_len]
      simp
    · rw [List.getElem?_append_left (by rw [hN_len]; omega)]
      exact hN_get zs K k (by omega)
/-- An array of the heap, whatever its Exec: it may be. -/
theorem find_X (L : List C) (ex : Bool) (k z : Nat) (it : List O) (h : L[k]? = some ⟨false, false, false, it, []⟩) (hz : it.length = z) (hz2 : z ≤ 40000) (hk : k ≤ 40000) :
    mayH L ⟨9, ex, (k : Int), 0, (z : Int), ⟨#[]⟩⟩ = true ∧ findE L ⟨9, ex, (k : Int), 0, (z : Int), ⟨#[]⟩⟩ = 0 := by
  have hl : k < L.length := (List.getElem?_eq_some_iff.1 h).1
  have hm : mayH L ⟨9, ex, (k : Int), 0, (z : Int), ⟨#[]⟩⟩ = true := by
    simp only [mayH, held, mayO, eqO, bareO, O.nil, Int.toNat_natCast, h]
    simp [C.kind, C.size, hz]
    omega
  exact ⟨hm, by simp [findE, hm, held]⟩
theorem set_X (L : List C) (ex : Bool) (k z : Nat) (it : List O) (hk : L.length = k) (hz : it.length = z) (hz2 : z ≤ 40000) (hk2 : k ≤ 40000) (i : Nat) (hi : i < z) (x : O) (hx : mayH (L ++ [⟨false, false, false, it, []⟩]) x = true) :
    setH (L ++ [⟨false, false, false, it, []⟩]) ⟨9, ex, (k : Int), 0, (z : Int), ⟨#[]⟩⟩ (i : Int) x = (L ++ [⟨false, false, false, it.set i x, []⟩], 0) := by
  have hg : (L ++ [(⟨false, false, false, it, []⟩ : C)])[k]? = some ⟨false, false, false, it, []⟩ := by
    rw [List.getElem?_append_right (by omega), hk]; simp
  have hf := (find_X _ ex k z it hg hz hz2 hk2).2
  unfold setH
  rw [hf]
  simp only [ne_eq, not_true_eq_false, if_false, Int.toNat_natCast, hg]
  have hs : (L ++ [(⟨false, false, false, it, []⟩ : C)]).set k ⟨false, false, false, it.set i x, []⟩ = L ++ [⟨false, false, false, it.set i x, []⟩] := by
    rw [List.set_append_right _ _ (by omega), hk]; simp
  simp [atOf, lenOf, hx, hs]
  omega
theorem mayO_int7 : mayO int7 = true := by simp [mayO, eqO, bareO, O.nil]
theorem mayO_mrk : mayO mrkO = true := by simp [mayO, eqO, bareO, O.nil]
theorem may_N (zs : List Bool) (k : Nat) (c : C) (hk : k ≤ 100) : mayH (hN zs k ++ [c]) (oN zs k) = true := by
  cases k with
  | zero =>
    unfold mayH
    rw [show oN zs 0 = int7 from rfl, mayO_int7]
    rfl
  | succ k => exact (find_X _ (exN zs k) k 2 [oN zs k, mrkO] (by rw [List.getElem?_append_left (by rw [hN_len]; omega)]; exact hN_get zs (k + 1) k (by omega)) rfl (by omega) (by omega)).1
theorem may_mrk (L : List C) : mayH L mrkO = true := by
  unfold mayH
  rw [mayO_mrk]
  rfl
theorem arr_N (zs : List Bool) (k : Nat) (hk : k ≤ 100) : arrayH (hN zs k) 2 = (hN zs k ++ [⟨false, false, false, [nullO, nullO], []⟩], ⟨9, false, (k : Int), 0, 2, ⟨#[]⟩⟩, 0) := by
  unfold arrayH
  have hu := hN_used zs k
  rw [if_neg (by omega), if_neg (by omega), add_fits _ _ (by rw [hN_len]; omega) (by rw [hu]; simp [C.size]; omega)]
  simp [objOf, C.kind, C.size, hN_len, List.replicate]
theorem items_N (zs : List Bool) (K k : Nat) (hk : k < K) (hK : K ≤ 100) : itemsH (hN zs K) (oN zs (k + 1)) = ([oN zs k, mrkO], 0) := by
  have hg := hN_get zs K k hk
  have hf := (find_X _ (exN zs k) k 2 [oN zs k, mrkO] hg rfl (by omega) (by omega)).2
  unfold itemsH
  rw [show oN zs (k + 1) = ⟨9, exN zs k, (k : Int), 0, ((2 : Nat) : Int), ⟨#[]⟩⟩ from rfl, hf]
  simp only [ne_eq, not_true_eq_false, if_false, Int.toNat_natCast, hg]
  simp [atOf, lenOf]
/-- What is wanted. -/
def wN (zs : List Bool) (L : Nat) : Nat → List UInt8
  | 0 => [55]
  | k + 1 => if k + 21 = L then arrL else if L ≤ k + 20 then (if exN zs k = true then 123 else 91) :: (wN zs L k ++ (32 :: mrkL ++ [if exN zs k = true then 125 else 93])) else wN zs L k
theorem wN_len (zs : List Bool) (L : Nat) (k : Nat) : (wN zs L k).length ≤ 7 + 9 * k := by
  induction k with
  | zero => simp [wN]
  | succ k ih =>
    rw [wN]
    split
    · simp only [List.length_cons, List.length_nil]; omega
    · split
      · simp only [List.length_cons, List.length_append, List.length_nil]; omega
      · omega
theorem say_mrk (H : List C) (d : Nat) : sayT H d mrkO = mrkL := by
  have h : leafT mrkO = mrkL := by
    unfold leafT
    rw [if_neg (by decide)]
    unfold plainB
    rw [if_neg (by decide), if_neg (by decide), if_neg (by decide), if_pos rfl, ByteArray.toList_eq]
  cases d with
  | zero => exact h
  | succ d => rw [sayT, if_neg (by decide)]; exact h
theorem say_int7 (H : List C) (d : Nat) : sayT H d int7 = [55] := by
  have h : leafT int7 = [55] := by
    unfold leafT
    rw [if_neg (by decide)]
    unfold plainB
    rw [if_neg (by decide), if_pos rfl, ByteArray.toList_eq]
    unfold intL
    rw [if_neg (by decide), decL_lo _ (by decide)]
    rfl
  cases d with
  | zero => exact h
  | succ d => rw [sayT, if_neg (by decide)]; exact h
theorem sayG_leaf (H : List C) (d : Nat) (o : O) (hm : mayO o = true) (hk : plainK o) (h9 : ¬ o.kind = 9) : SayG H d o := by
  cases d with
  | zero => exact ⟨hm, hk, fun h => absurd h h9⟩
  | succ d => exact ⟨hm, hk, fun h => absurd h h9⟩
theorem mayO_oN (zs : List Bool) (k : Nat) (hk : k ≤ 100) : mayO (oN zs k) = true := by
  have h := may_N zs k ⟨false, false, false, [], []⟩ hk
  unfold mayH at h
  rw [Bool.and_eq_true] at h
  exact h.1
theorem say_N (zs : List Bool) (L : Nat) (hL : L ≤ 25) : ∀ k, k ≤ L → L ≤ k + 20 → sayT (hN zs L) (20 - (L - k)) (oN zs k) = wN zs L k ∧ SayG (hN zs L) (20 - (L - k)) (oN zs k)
  | 0, _, _ => ⟨say_int7 _ _, sayG_leaf _ _ _ mayO_int7 (.inr (.inl rfl)) (show ¬ int7.kind = 9 by decide)⟩
  | k + 1, h1, h2 => by
    have hit := items_N zs L k (by omega) (by omega)
    have hmo := mayO_oN zs (k + 1) (by omega)
    by_cases c : k + 21 = L
    · rw [show 20 - (L - (k + 1)) = 0 by omega, wN, if_pos c]
      refine ⟨?_, hmo, .inr (.inr (.inr (.inr rfl))), fun _ => ?_⟩
      · unfold sayT leafT
        rw [if_neg (fun e => absurd e.1 (by simp [oN]))]
        rw [show plainB (oN zs (k + 1)) = ⟨#[45, 97, 114, 114, 97, 121, 45]⟩ from rfl, ByteArray.toList_eq]
      · rw [hit]; exact ⟨rfl, Nat.zero_lt_succ _⟩
    · obtain ⟨ih1, ih2⟩ := say_N zs L hL k (by omega) (by omega)
      rw [show 20 - (L - (k + 1)) = (20 - (L - k)) + 1 by omega, wN, if_neg c, if_pos (by omega)]
      refine ⟨?_, hmo, .inr (.inr (.inr (.inr rfl))), fun _ => ?_⟩
      · rw [sayT, if_pos (show (oN zs (k + 1)).kind = 9 from rfl), hit, show (oN zs (k + 1)).exec = exN zs k from rfl, arrT]
        simp only
        rw [jn_all, ih1]
        simp [say_mrk]
      · rw [hit]
        refine ⟨rfl, by simp, by simp, fun x hx => ?_⟩
        simp only [List.mem_cons, List.not_mem_nil, or_false] at hx
        rcases hx with rfl | rfl
        · exact ih2
        · exact sayG_leaf _ _ _ mayO_mrk (.inr (.inr (.inr (.inl rfl)))) (by decide)
end Go.Proofs.Ytbjlognbaplgpaa
