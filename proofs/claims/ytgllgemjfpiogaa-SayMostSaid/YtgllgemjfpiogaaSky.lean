/- known of tympanlaw17. -/
import Derived.Test.YtgllgemjfpiogaaFul
import Derived.Test.YtgllgemjfpiogaaDy
namespace Go.Proofs.Ytgllgemjfpiogaa
open Go.RowKit

abbrev int1 : O := ⟨3, false, 1, 0, 0, ⟨#[]⟩⟩
abbrev nameB : O := ⟨5, false, 0, 0, 0, ⟨#[98]⟩⟩
abbrev arr2 : O := ⟨9, false, 0, 0, 2, ⟨#[]⟩⟩
theorem s17_2 : setH [⟨false, false, false, [nullO, nullO], []⟩] arr2 0 int1 = ([⟨false, false, false, [int1, nullO], []⟩], 0) := by
  simp [setH, findE, held, mayH, mayO, eqO, bareO, O.nil, C.size, C.kind, lenOf, atOf]
theorem mayO_nameB : mayO nameB = true := by
  simp [mayO, eqO, bareO, O.nil]
  decide
theorem s17_3 : setH [⟨false, false, false, [int1, nullO], []⟩] arr2 1 nameB = ([⟨false, false, false, [int1, nameB], []⟩], 0) := by
  have h : mayH [⟨false, false, false, [int1, nullO], []⟩] nameB = true := by
    unfold mayH
    rw [mayO_nameB]
    simp [held]
  unfold setH
  rw [h]
  simp [findE, held, mayH, mayO, eqO, bareO, O.nil, C.size, C.kind, lenOf, atOf]
theorem s17_i : itemsH [⟨false, false, false, [int1, nameB], []⟩] arr2 = ([int1, nameB], 0) := by
  simp [itemsH, findE, held, mayH, mayO, eqO, bareO, O.nil, C.size, C.kind, lenOf, atOf]
theorem mayO_int1 : mayO int1 = true := by
  simp [mayO, eqO, bareO, O.nil]
theorem mayO_arr2 : mayO arr2 = true := by
  simp [mayO, eqO, bareO, O.nil]
theorem s17_g : SayG [⟨false, false, false, [int1, nameB], []⟩] 20 arr2 := by
  refine ⟨mayO_arr2, .inr (.inr (.inr (.inr rfl))), fun _ => ?_⟩
  rw [s17_i]
  refine ⟨rfl, by decide, by decide, fun x hx => ?_⟩
  simp only [List.mem_cons, List.not_mem_nil, or_false] at hx
  rcases hx with rfl | rfl
  · exact ⟨mayO_int1, .inr (.inl rfl), fun h => absurd h (by decide)⟩
  · exact ⟨mayO_nameB, .inr (.inr (.inl rfl)), fun h => absurd h (by decide)⟩
theorem intL_1 : intL 1 = [49] := by
  unfold intL
  rw [if_neg (by decide), decL_lo _ (by decide)]
  rfl
theorem s17_t : sayT [⟨false, false, false, [int1, nameB], []⟩] 20 arr2 = [91, 49, 32, 47, 98, 93] := by
  have e1 : leafT int1 = [49] := by
    unfold leafT
    rw [if_neg (by decide)]
    unfold plainB
    rw [if_neg (by decide), if_pos rfl, intL_1, ByteArray.toList_eq]
  have e2 : leafT nameB = [47, 98] := by
    unfold leafT
    rw [if_pos (by decide), ByteArray.toList_eq]
  have f1 : sayT [⟨false, false, false, [int1, nameB], []⟩] 19 int1 = [49] := by rw [sayT, if_neg (by decide), e1]
  have f2 : sayT [⟨false, false, false, [int1, nameB], []⟩] 19 nameB = [47, 98] := by rw [sayT, if_neg (by decide), e2]
  rw [sayT, if_pos rfl, s17_i]
  simp only [arrT, jn, List.length_cons, List.length_nil, List.getD_cons_zero, List.getD_cons_succ]
  rw [f1, f2]
  rfl
theorem s17_p : plainB arr2 = ⟨#[45, 97, 114, 114, 97, 121, 45]⟩ := by
  unfold plainB
  rw [if_neg (by decide), if_neg (by decide), if_neg (by decide), if_neg (by decide)]
set_option maxRecDepth 100000 in
set_option maxHeartbeats 4000000 in
theorem known17_any (w : World) :
   Calls Try.prog 20 #[] w fun e w' => e = .returned (.bool true) ∧ Chg NoB w w' := by
  go_enter Try.func20, Try.ntmps20
  go_wp2_with fail
  refine (at_hnew (Ats.start (Chg.refl NoB w))).mono ?_
  rintro e w1 ⟨hp, rfl, A0⟩
  go_wp2_with fail
  refine (at_array A0 2 kn_1).mono ?_
  rintro e w2 ⟨rfl, A1⟩
  go_wp2_with fail
  refine (at_set (A1.alloc _) _ 0 _ s17_2).mono ?_
  rintro e w3 ⟨rfl, A2⟩
  have R2 := cells_of (A2.box _ (List.mem_cons_self ..))
  have v2 := blk_lt (A2.box _ (List.mem_cons_self ..))
  simp only at R2 v2
  clear A0 A1
  go_wp2_with fail
  refine (at_set A2 _ 1 _ s17_3).mono ?_
  rintro e w4 ⟨rfl, A3⟩
  clear A2 R2 v2
  have R3 := cells_of (A3.box _ (List.mem_cons_self ..))
  have v3 := blk_lt (A3.box _ (List.mem_cons_self ..))
  simp only at R3 v3
  have HF := at_full A3 (List.mem_cons_self ..) arr2 s17_g
  rw [s17_t] at HF
  have HF2 := hid' HF
  clear HF A3
  go_wp2_with fail
  refine HF2.out.mono ?_
  rintro e w5 ⟨rfl, A4⟩
  clear R3 v3
  have R4 := cells_of (A4.box _ (List.mem_cons_self ..))
  have v4 := blk_lt (A4.box _ (List.mem_cons_self ..))
  simp only at R4 v4
  have HP := hid' (plain_any arr2 hp mayO_arr2 (.inr (.inr (.inr (.inr rfl)))) w5)
  rw [s17_p] at HP
  have HA := hid' A4
  clear A4
  go_wp2_with fail
  refine HP.out.mono ?_
  rintro e w6 ⟨rfl, X6⟩
  go_wp2_with fail
  go_ret
  exact ⟨rfl, (HA.out.pure X6).chg⟩
end Go.Proofs.Ytgllgemjfpiogaa
