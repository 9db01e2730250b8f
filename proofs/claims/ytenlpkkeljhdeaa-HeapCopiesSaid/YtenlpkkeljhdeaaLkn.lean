/- tympanlaw11.known. -/
import Derived.Test.YtenlpkkeljhdeaaLat
namespace Go.Proofs.Ytenlpkkeljhdeaa
open Go.RowKit

set_option maxRecDepth 100000 in
set_option maxHeartbeats 4000000 in
theorem known11_any (w : World) :
   Calls Try.prog 20 #[] w fun e w' => e = .returned (.bool true) ∧ Chg NoB w w' := by
  go_enter Try.func20, Try.ntmps20
  go_wp2_with fail
  refine (new_any w).mono ?_
  rintro e w0 ⟨rfl, hw0⟩
  have A0 : At w w0 w.heap.size [] [] := hw0 ▸ At.new (Chg.refl _ _)
  clear hw0
  go_wp2_with fail
  refine (at_array A0 2 kn_1).mono ?_
  rintro e w1 ⟨rfl, A1⟩
  clear A0
  go_wp2_with fail
  have A1' := A1.alloc (.cells #[.int .i64 9, .bool false, .int .i64 0, .int .i64 0, .int .i64 2, .string ⟨#[]⟩] 29)
  refine (at_part A1' _ 1 1 kn_2).mono ?_
  rintro e w2 ⟨rfl, A2⟩
  clear A1 A1'
  have R2 := cells_of (A2.box _ (List.mem_cons_self ..))
  go_wp2_with fail
  have A2' := A2.alloc (.cells #[.int .i64 9, .bool false, .int .i64 0, .int .i64 1, .int .i64 1, .string ⟨#[]⟩] 29)
  refine (at_set A2' _ 0 _ kn_3).mono ?_
  rintro e w3 ⟨rfl, A3⟩
  clear A2 A2' R2
  have R3 := cells_of (A3.box _ (List.mem_cons_of_mem _ (List.mem_cons_self ..)))
  go_wp2_with fail
  refine (at_get A3 _ 1 kn_4).mono ?_
  rintro e w4 ⟨rfl, A4⟩
  clear A3 R3
  go_wp2_with fail
  have A4' := A4.alloc (.cells #[.int .i64 3, .bool false, .int .i64 7, .int .i64 0, .int .i64 0, .string ⟨#[]⟩] 29)
  refine (at_cells (A4'.pure (Chg.refl _ _))).mono ?_
  rintro e w5 ⟨rfl, rfl⟩
  go_wp2_with fail
  refine (at_used (A4'.pure (Chg.refl _ _))).mono ?_
  rintro e w6 ⟨rfl, rfl⟩
  go_wp2_with fail
  go_ret
  exact ⟨by simp [used, C.size], A4'.chg⟩
end Go.Proofs.Ytenlpkkeljhdeaa
