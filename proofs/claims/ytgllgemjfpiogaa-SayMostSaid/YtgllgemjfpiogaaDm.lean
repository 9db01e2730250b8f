/- dict.look, on a heap that a law made. -/
import Derived.Test.YtgllgemjfpiogaaDl
namespace Go.Proofs.Ytgllgemjfpiogaa
open Go.RowKit

abbrev foundC (key : O) (at' n room : Int) (there : Bool) : Array Value := #[.int .i64 key.kind, .bool key.exec, .int .i64 key.n, .int .i64 key.pos, .int .i64 key.len, .string key.s, .int .i64 at', .int .i64 n, .int .i64 room, .bool there]

set_option maxRecDepth 100000 in
set_option maxHeartbeats 8000000 in
theorem at_look {w0 w : World} {hp : Nat} {L : List C} {M : List (Nat × List C)} {K : List (Nat × Obj)} (A : Ats w0 w M K) (hm : (hp, L) ∈ M) (N : Nat) (ps : List (O × O)) (room : Nat) (D : DicAt L N (dcell ps room)) (h : ps.length ≤ room) (hr : room ≤ 1000) (hf : ps.length < 256)
    (k : O) {key : O} {e : Int} (hk : keyD L k = (key, e)) (r : Nat) (b : Bool) (hp1 : e = 0 → PlaceS ps key r b) (hp2 : e ≠ 0 → r = 0 ∧ b = false) :
    Calls Try.prog 40 #[ptr hp, (dicO N).val, k.val] w fun x w' => x = .returned (.tuple #[.agg (foundC key r ps.length room b), .int .i64 e]) ∧ Ats w0 w' M K := by
  have HK := fun {w' : World} {K' : List (Nat × Obj)} (A' : Ats w0 w' M K') => at_dkey A' k hk hm
  have HO := fun {w' : World} {K' : List (Nat × Obj)} (A' : Ats w0 w' M K') => at_dopen A' hm N ps room D h hr
  obtain ⟨kk, kx, kn, kp, kl, ks⟩ := k
  obtain ⟨ck, cx, cn, cp, cl, cs⟩ := key
  have A1 := ((A.alloc (.cells #[.int .i64 10, .bool false, .int .i64 N, .int .i64 0, .int .i64 0, .string ⟨#[]⟩] 28)).alloc (.cells #[.int .i64 kk, .bool kx, .int .i64 kn, .int .i64 kp, .int .i64 kl, .string ks] 28)).alloc (.cells (foundC O.nil 0 0 0 false) 81)
  simp only [World.size_alloc, O.nil] at A1
  go_enter Try.func40, Try.ntmps40
  go_wp2_with fail
  refine (HO A1).mono ?_
  rintro x w2 ⟨rfl, A2⟩
  have R5 := cells_of (A2.box _ (List.mem_cons_of_mem _ (List.mem_cons_self ..)))
  have R6 := cells_of (A2.box _ (List.mem_cons_self ..))
  have Z6 := free_of (A2.box _ (List.mem_cons_self ..))
  have l6 := blk_lt (A2.box _ (List.mem_cons_self ..))
  simp only at l6
  clear HO A1
  go_wp2_with fail
  have A3 := (A2.put 7 (.int .i64 ps.length)).put 8 (.int .i64 room)
  change Ats w0 _ M ((_, .cells (foundC ⟨0, false, 0, 0, 0, ⟨#[]⟩⟩ 0 ps.length room false) _) :: _) at A3
  generalize (w2.setCell ⟨w.heap.size + 1 + 1, 7, none⟩ (.int .i64 ps.length)).setCell ⟨w.heap.size + 1 + 1, 8, none⟩ (.int .i64 room) = w3 at *
  clear R5 R6 Z6 l6 A2
  refine (HK A3).mono ?_
  rintro x w4 ⟨rfl, A4⟩
  clear HK A3
  have R4 := cells_of (A4.box _ (List.mem_cons_of_mem _ (List.mem_cons_of_mem _ (List.mem_cons_self ..))))
  have R6 := cells_of (A4.box _ (List.mem_cons_self ..))
  have Z6 := free_of (A4.box _ (List.mem_cons_self ..))
  have l6 := blk_lt (A4.box _ (List.mem_cons_self ..))
  simp only at l6
  by_cases he : e = 0
  · subst he
    have HP := hp1 rfl
    clear hp1 hp2
    go_wp2_with fail
    have A5 := (((((A4.put 0 (.int .i64 ck)).put 1 (.bool cx)).put 2 (.int .i64 cn)).put 3 (.int .i64 cp)).put 4 (.int .i64 cl)).put 5 (.string cs)
    change Ats w0 _ M ((_, .cells (foundC ⟨ck, cx, cn, cp, cl, cs⟩ 0 ps.length room false) _) :: _) at A5
    generalize (((((w4.setCell ⟨w.heap.size + 1 + 1, 0, none⟩ (.int .i64 ck)).setCell ⟨w.heap.size + 1 + 1, 1, none⟩ (.bool cx)).setCell ⟨w.heap.size + 1 + 1, 2, none⟩ (.int .i64 cn)).setCell ⟨w.heap.size + 1 + 1, 3, none⟩ (.int .i64 cp)).setCell ⟨w.heap.size + 1 + 1, 4, none⟩ (.int .i64 cl)).setCell ⟨w.heap.size + 1 + 1, 5, none⟩ (.string cs) = w5 at *
    clear R4 R6 Z6 l6 A4
    refine (at_place A5 hm N ps room D h hf ⟨ck, cx, cn, cp, cl, cs⟩ r b HP).mono ?_
    rintro x w6 ⟨rfl, A6⟩
    have R6 := cells_of (A6.box _ (List.mem_cons_self ..))
    have Z6 := free_of (A6.box _ (List.mem_cons_self ..))
    have l6 := blk_lt (A6.box _ (List.mem_cons_self ..))
    simp only at l6
    clear A5
    have A7 := ((((((((((((A6.put 6 (.int .i64 r)).put 9 (.bool b)).put 0 (.int .i64 ck)).put 1 (.bool cx)).put 2 (.int .i64 cn)).put 3 (.int .i64 cp)).put 4 (.int .i64 cl)).put 5 (.string cs)).put 6 (.int .i64 r)).put 7 (.int .i64 ps.length)).put 8 (.int .i64 room)).put 9 (.bool b))
    have R7 := cells_of (A7.box _ (List.mem_cons_self ..))
    simp only at R7
    go_wp2
    refine bodyPost_ret (v := .tuple #[.agg (foundC ⟨ck, cx, cn, cp, cl, cs⟩ r ps.length room b), .int .i64 0]) (by simp [results, Try.results40, go_sem, R7]) rfl ⟨rfl, A7.loses (K1 := [_, _, _]) (Chg.refl _ _)⟩
  · obtain ⟨rfl, rfl⟩ := hp2 he
    have he' : (e != 0) = true := by simpa using he
    clear hp1 hp2
    have A7 := ((((((((((((((((A4.put 0 (.int .i64 ck)).put 1 (.bool cx)).put 2 (.int .i64 cn)).put 3 (.int .i64 cp)).put 4 (.int .i64 cl)).put 5 (.string cs)).put 0 (.int .i64 ck)).put 1 (.bool cx)).put 2 (.int .i64 cn)).put 3 (.int .i64 cp)).put 4 (.int .i64 cl)).put 5 (.string cs)).put 6 (.int .i64 0)).put 7 (.int .i64 ps.length)).put 8 (.int .i64 room)).put 9 (.bool false))
    have R7 := cells_of (A7.box _ (List.mem_cons_self ..))
    simp only at R7
    go_wp2
    refine bodyPost_ret (v := .tuple #[.agg (foundC ⟨ck, cx, cn, cp, cl, cs⟩ 0 ps.length room false), .int .i64 e]) (by simp [results, Try.results40, go_sem, R7]) rfl ⟨rfl, A7.loses (K1 := [_, _, _]) (Chg.refl _ _)⟩
end Go.Proofs.Ytgllgemjfpiogaa
