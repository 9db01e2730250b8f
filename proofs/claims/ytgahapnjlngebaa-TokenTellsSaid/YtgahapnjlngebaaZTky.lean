/- known of tympanlaw8. -/
import Derived.Test.YtgahapnjlngebaaZTokc
namespace Go.Proofs.Ytgahapnjlngebaa
open Go.RowKit

abbrev k8a : ByteArray := ⟨#[47, 97, 32, 49]⟩
abbrev k8b : ByteArray := ⟨#[49, 32, 40, 97, 41, 125]⟩
theorem k8a_lst : k8a.toList = [47, 97, 32, 49] := by rw [ByteArray.toList_eq]
theorem k8b_lst : k8b.toList = [49, 32, 40, 97, 41, 125] := by rw [ByteArray.toList_eq]
theorem k8_1 : nextF [47, 97, 32, 49] = (0, ⟨4, 0, ⟨#[97]⟩, 0⟩, 0, 2) := by decide +kernel
theorem k8_2 : tokAt 0 [47, 97, 32, 49] = ⟨4, 0, ⟨#[97]⟩, 0⟩ := by decide +kernel
theorem k8_p : parenW [97, 41, 125] 1 1 [] = (0, [97], 3) := by
  rw [parenW, if_neg (by decide), if_neg (by decide), if_neg (by decide), if_neg (by decide), if_neg (by decide), parenW, if_neg (by decide), if_pos rfl, if_pos rfl]
  rfl
theorem k8_t : takeF [40, 97, 41, 125] = (0, [97], 3) := by
  have h : takeW [40, 97, 41, 125] = (0, [97], 3) := (if_pos rfl).trans k8_p
  unfold takeF; rw [h]; rfl
theorem k8_w : wordF [40, 97, 41, 125] = (0, ⟨6, 0, ⟨#[97]⟩, 0⟩, 3) := by
  unfold wordF
  rw [if_neg (by decide), if_pos (.inl rfl), k8_t]
theorem k8_n : nextF [32, 40, 97, 41, 125] = (0, ⟨6, 0, ⟨#[97]⟩, 0⟩, 1, 3) := by
  have e : ([32, 40, 97, 41, 125] : List UInt8).drop (skipL false [32, 40, 97, 41, 125]) = [40, 97, 41, 125] := by decide
  unfold nextF
  rw [e, k8_w, if_neg (by decide), if_pos rfl]
  rfl
theorem k8_n2 : tokAt 1 [32, 40, 97, 41, 125] = ⟨6, 0, ⟨#[97]⟩, 2⟩ := by
  have e : ([32, 40, 97, 41, 125] : List UInt8).drop (skipL false [32, 40, 97, 41, 125]) = [40, 97, 41, 125] := by decide
  unfold tokAt
  rw [e, k8_n, if_neg (by decide)]
  rfl
theorem k8_all : allF [49, 32, 40, 97, 41, 125] = (0, [⟨1, 1, ⟨#[]⟩, 0⟩, ⟨6, 0, ⟨#[97]⟩, 2⟩, ⟨8, 0, ⟨#[]⟩, 5⟩], 0) := by
  have a1 : nextF [49, 32, 40, 97, 41, 125] = (0, ⟨1, 1, ⟨#[]⟩, 0⟩, 0, 1) := by decide +kernel
  have a2 : tokAt 0 [49, 32, 40, 97, 41, 125] = ⟨1, 1, ⟨#[]⟩, 0⟩ := by decide +kernel
  have a3 : nextF [125] = (0, ⟨8, 0, ⟨#[]⟩, 0⟩, 0, 1) := by decide +kernel
  have a4 : tokAt 5 [125] = ⟨8, 0, ⟨#[]⟩, 5⟩ := by decide +kernel
  have a5 : nextF [] = (0, Tok.nil, 0, 0) := by decide +kernel
  have a6 : tokAt 6 [] = Tok.nil := by decide +kernel
  unfold allF
  rw [if_neg (by decide)]
  simp only [List.length_cons, List.length_nil, allW]
  rw [a1, a2]
  simp only [ne_eq, not_true_eq_false, if_false, List.drop_succ_cons, List.drop_zero, Nat.zero_add]
  rw [k8_n, k8_n2]
  simp only [ne_eq, not_true_eq_false, if_false, List.drop_succ_cons, List.drop_zero]
  rw [a3, a4]
  simp only [ne_eq, not_true_eq_false, if_false, List.drop_succ_cons, List.drop_zero]
  rw [a5, a6]
  rfl

set_option maxRecDepth 100000 in
set_option maxHeartbeats 1000000 in
theorem known8_any (w : World) : Calls Try.prog 7 #[] w fun r w' => r = .returned (.bool true) ∧ Chg NoB w w' := by
  have h1 := next_any k8a 0 (by decide) (by decide) w
  change Calls _ _ _ _ (fun r w' => r = .returned (wordV (tokAt 0 k8a.toList) ((0 + (nextF k8a.toList).2.2.1 + (nextF k8a.toList).2.2.2 : Nat) : Int) (nextF k8a.toList).1) ∧ Chg NoB w w') at h1
  rw [k8a_lst, k8_1, k8_2] at h1
  have h2 := fun w => all_any k8b (by decide) w
  rw [k8b_lst, k8_all] at h2
  have e1 : eqT ⟨4, 0, ⟨#[97]⟩, 0⟩ ⟨4, 0, ⟨#[97]⟩, 0⟩ = true := eqT_self _
  go_enter Try.func7, Try.ntmps7
  go_wp2_with fail
  refine h1.mono ?_
  rintro r w1 ⟨rfl, X1⟩
  go_wp2_with fail
  have hb := blk_new w1 (.cells #[.int .i64 4, .int .i64 0, .string ⟨#[97]⟩, .int .i64 0] 31)
  have X2 := X1.alloc (.cells #[.int .i64 4, .int .i64 0, .string ⟨#[97]⟩, .int .i64 0] 31)
  refine (h2 _).mono ?_
  rintro r w2 ⟨v, rfl, X3, hown, -⟩
  obtain ⟨a, cap, rfl, hcap, hc⟩ := ToksAt.of_own hown
  obtain ⟨b, off, rfl, hbl, hc⟩ := hc (by decide)
  obtain ⟨c1, -, -, -⟩ := hc 1 ⟨6, 0, ⟨#[97]⟩, 2⟩ rfl
  obtain ⟨-, -, -, c2⟩ := hc 2 ⟨8, 0, ⟨#[]⟩, 5⟩ rfl
  have R1 := cells_of (X3.blk hb id)
  have l1 := blk_lt (X3.blk hb id)
  have hcap3 : 3 ≤ cap := hcap
  simp only at c1 c2
  clear hc hown h1 h2 hcap hb
  go_wp2_with fail
  go_ret
  exact ⟨rfl, X2.trans X3⟩
end Go.Proofs.Ytgahapnjlngebaa
