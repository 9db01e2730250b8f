/- dict.Pairs, on a heap that a law made. -/
import Derived.Test.YtgllgemjfpiogaaDs
namespace Go.Proofs.Ytgllgemjfpiogaa
open Go.RowKit

set_option maxRecDepth 100000 in
set_option maxHeartbeats 4000000 in
theorem at_dpairs {w0 w : World} {hp : Nat} {L : List C} {M : List (Nat × List C)} {K : List (Nat × Obj)} (A : Ats w0 w M K) (hm : (hp, L) ∈ M) (N : Nat) (ps : List (O × O)) (room : Nat) (D : DicAt L N (dcell ps room)) (h : ps.length ≤ room) (hr : room ≤ 1000) (h1 : 1 ≤ ps.length) :
    Calls Try.prog 19 #[ptr hp, (dicO N).val] w fun x w' => ∃ g cur fz, x = .returned (.tuple #[.slice (some ⟨g, 6, none⟩) (2 * ps.length) (2 * ps.length), .int .i64 0]) ∧ Ats w0 w' M ((g, .cells cur 28 fz) :: K) ∧
      ∀ i, i < (dItems ps room).length * 6 → cur[i]? = ((dItems ps room).flatMap O.cells)[i]? := by
  have S1 := D.items
  have hdl := dItems_length ps room h
  have A1 := A.alloc (.cells #[.int .i64 10, .bool false, .int .i64 N, .int .i64 0, .int .i64 0, .string ⟨#[]⟩] 28)
  have hli : (ps.length : Int) ≤ 1000 := by omega
  have hl1 : 1 ≤ (ps.length : Int) := by omega
  have c1 : ((2 * (ps.length : Int) + 1).toNat) = 2 * ps.length + 1 := by omega
  go_enter Try.func19, Try.ntmps19
  go_wp2_with fail
  refine (at_dopen A1 hm N ps room D h hr).mono ?_
  rintro x w2 ⟨rfl, A2⟩
  have R3 := cells_of (A2.box _ (List.mem_cons_self ..))
  clear A1
  go_wp2_with fail
  refine (at_items A2 _ S1 (by simp only [hdl]; omega) hm).mono ?_
  rintro x w3 ⟨g, cap, cur, fz, rfl, hcap, A3, RL⟩
  simp only [hdl] at hcap RL ⊢
  have hcap' : 2 * (ps.length : Int) + 1 ≤ (cap : Int) := by omega
  have A4 := (A3.perm (List.Perm.swap _ _ _)).keep (List.sublist_cons_self _ _)
  have HRL := Hid.mk' RL
  clear R3 A2 A3 RL
  go_wp2_with fail
  go_ret2
  exact ⟨g, cur, fz, rfl, A4, fun i hi => HRL.out i (by rw [hdl] at hi; exact hi)⟩

/-! ### Keys -/
theorem may_str (L : List C) (N : Nat) (s : ByteArray) (ex : Bool) (hc : L[N]? = some (txt s.toList)) (hN : N ≤ 40000) (hs : s.size ≤ 40000) : mayH L ⟨8, ex, N, 0, s.size, ⟨#[]⟩⟩ = true := by
  have hl := (List.getElem?_eq_some_iff.1 hc).1
  have hz := size_toList s
  simp [mayH, held, mayO, eqO, bareO, O.nil, hc, C.kind, C.size, hz]
  omega
theorem bytes_str (L : List C) (N : Nat) (s : ByteArray) (ex : Bool) (hc : L[N]? = some (txt s.toList)) (hN : N ≤ 40000) (hs : s.size ≤ 40000) : bytesH L ⟨8, ex, N, 0, s.size, ⟨#[]⟩⟩ = (s, 0) := by
  have hm := may_str L N s ex hc hN hs
  have hz := size_toList s
  have hf : findE L ⟨8, ex, N, 0, s.size, ⟨#[]⟩⟩ = 0 := by simp [findE, hm, held]
  unfold bytesH
  rw [hf]
  simp only [ne_eq, not_true_eq_false, if_false, Int.toNat_natCast, hc, if_true, atOf, lenOf]
  rw [if_neg (by decide), if_neg (by decide), Int.toNat_zero, List.drop_zero, Int.toNat_natCast, List.take_of_length_le (by omega), ofList]
theorem key_str (L : List C) (N : Nat) (s : ByteArray) (ex : Bool) (hc : L[N]? = some (txt s.toList)) (hN : N ≤ 40000) (hs : s.size ≤ 40000) :
    keyD L ⟨8, ex, N, 0, s.size, ⟨#[]⟩⟩ = if 100 < (s.size : Int) then (O.nil, 5) else (⟨5, false, 0, 0, 0, s⟩, 0) := by
  unfold keyD
  rw [may_str L N s ex hc hN hs, bytes_str L N s ex hc hN hs]
  simp
theorem may_name (L : List C) (s : ByteArray) (ex : Bool) (hs : s.size ≤ 100) : mayH L ⟨5, ex, 0, 0, 0, s⟩ = true := by
  simp [mayH, held, mayO, eqO, bareO, O.nil]
  omega
theorem key_name (L : List C) (s : ByteArray) (ex : Bool) (hs : s.size ≤ 100) : keyD L ⟨5, ex, 0, 0, 0, s⟩ = (⟨5, false, 0, 0, 0, s⟩, 0) := by
  unfold keyD
  rw [may_name L s ex hs]
  simp [unO]
theorem key_num (L : List C) (v : Int) (h : -2147483647 ≤ v) (h' : v ≤ 2147483647) : keyD L (numO v) = (numO v, 0) := by
  unfold keyD
  rw [may_num L v h h']
  simp [unO]
theorem key_null (L : List C) : keyD L nullO = (O.nil, 6) := by simp [keyD, nullO]
theorem same_name (s t : ByteArray) : sameO ⟨5, false, 0, 0, 0, s⟩ ⟨5, false, 0, 0, 0, t⟩ = decide (s = t) := by
  unfold sameO
  have h : (sizeO ⟨5, false, 0, 0, 0, s⟩).2 = false := by unfold sizeO; split <;> simp
  rw [if_neg (by rw [h]; simp)]
  simp [eqO, unO]
theorem same_name_num (s : ByteArray) (v : Int) : sameO ⟨5, false, 0, 0, 0, s⟩ (numO v) = false := by
  unfold sameO
  have h : (sizeO ⟨5, false, 0, 0, 0, s⟩).2 = false := by unfold sizeO; split <;> simp
  rw [if_neg (by rw [h]; simp)]
  simp [eqO, unO]
theorem dict_new (L : List C) (room : Nat) (h1 : L.length < 2000) (hr : room ≤ 1000) (h2 : used L + (2 * room + 1) ≤ 40000) : dictH L (room : Int) = (L ++ [dcell [] room], dicO L.length, 0) := by
  have hc : (⟨false, true, false, ⟨3, false, 0, 0, 0, ⟨#[]⟩⟩ :: List.replicate (2 * (room : Int).toNat) nullO, []⟩ : C) = dcell [] room := by simp [dItems, pairsL]
  unfold dictH
  rw [if_neg (by omega), hc, add_fits _ _ h1 (by simp [C.size, dItems_length [] room (by simp)]; omega)]
  simp [objOf, C.kind]
end Go.Proofs.Ytgllgemjfpiogaa
