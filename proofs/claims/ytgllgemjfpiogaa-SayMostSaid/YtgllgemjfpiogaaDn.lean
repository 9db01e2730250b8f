/- dict.New and Get, on a heap that a law made. -/
import Derived.Test.YtgllgemjfpiogaaDm
namespace Go.Proofs.Ytgllgemjfpiogaa
open Go.RowKit

set_option maxRecDepth 100000 in
theorem at_dnew {w0 w : World} {hp : Nat} {L : List C} {M : List (Nat × List C)} {K : List (Nat × Obj)} (A : Ats w0 w ((hp, L) :: M) K) (n : Int) {L' : List C} {o : O} {e : Int} (hr : dictH L n = (L', o, e)) :
    Calls Try.prog 11 #[ptr hp, .int .i64 n] w fun x w' => x = .returned (.tuple #[o.val, .int .i64 e]) ∧ Ats w0 w' ((hp, L') :: M) K := by
  obtain ⟨k, ex, m, p, le, s⟩ := o
  have A1 := A.alloc (.cells #[.int .i64 0, .bool false, .int .i64 0, .int .i64 0, .int .i64 0, .string ⟨#[]⟩] 28)
  go_enter Try.func11, Try.ntmps11
  go_wp2_with fail
  refine (at_dict A1 n hr).mono ?_
  rintro x w2 ⟨rfl, A2⟩
  have R4 := cells_of (A2.box _ (List.mem_cons_self ..))
  have Z4 := free_of (A2.box _ (List.mem_cons_self ..))
  have l4 := blk_lt (A2.box _ (List.mem_cons_self ..))
  simp only at l4
  clear A1
  go_wp2
  refine bodyPost_ret (v := .tuple #[(⟨k, ex, m, p, le, s⟩ : O).val, .int .i64 e]) (by simp [results, Try.results11, go_sem, R4, l4, cell_set_at]) rfl ⟨rfl, A2.loses (K1 := [_]) ?_⟩
  (repeat' (first | with_reducible exact Chg.refl _ _ | with_reducible refine Chg.drewN ?_ _ | with_reducible refine Chg.drew ?_ | with_reducible refine Chg.alloc ?_ _ | with_reducible refine Chg.at (by simp) ?_ _ _))

set_option maxRecDepth 100000 in
set_option maxHeartbeats 8000000 in
theorem at_dgetErr {w0 w : World} {hp : Nat} {L : List C} {M : List (Nat × List C)} {K : List (Nat × Obj)} (A : Ats w0 w M K) (hm : (hp, L) ∈ M) (N : Nat) (ps : List (O × O)) (room : Nat) (D : DicAt L N (dcell ps room)) (h : ps.length ≤ room) (hr : room ≤ 1000) (hf : ps.length < 256)
    (k : O) {key : O} {e : Int} (hk : keyD L k = (key, e)) (he : e ≠ 0) :
    Calls Try.prog 17 #[ptr hp, (dicO N).val, k.val] w fun x w' => x = .returned (.tuple #[O.nil.val, .int .i64 e]) ∧ Ats w0 w' M K := by
  have HL := fun {w' : World} {K' : List (Nat × Obj)} (A' : Ats w0 w' M K') => at_look A' hm N ps room D h hr hf k hk 0 false (fun z => absurd z he) (fun _ => ⟨rfl, rfl⟩)
  obtain ⟨kk, kx, kn, kp, kl, ks⟩ := k
  obtain ⟨ck, cx, cn, cp, cl, cs⟩ := key
  have he' : (e != 0) = true := by simpa using he
  have A1 := ((A.alloc (.cells #[.int .i64 10, .bool false, .int .i64 N, .int .i64 0, .int .i64 0, .string ⟨#[]⟩] 28)).alloc (.cells #[.int .i64 kk, .bool kx, .int .i64 kn, .int .i64 kp, .int .i64 kl, .string ks] 28)).alloc (.cells #[.int .i64 0, .bool false, .int .i64 0, .int .i64 0, .int .i64 0, .string ⟨#[]⟩] 28)
  simp only [World.size_alloc] at A1
  go_enter Try.func17, Try.ntmps17
  go_wp2_with fail
  refine (HL A1).mono ?_
  rintro x w2 ⟨rfl, A2⟩
  have R6 := cells_of (A2.box _ (List.mem_cons_self ..))
  have Z6 := free_of (A2.box _ (List.mem_cons_self ..))
  have l6 := blk_lt (A2.box _ (List.mem_cons_self ..))
  simp only at l6
  clear HL A1
  go_wp2
  refine bodyPost_ret (v := .tuple #[O.nil.val, .int .i64 e]) (by simp [results, Try.results17, go_sem, R6, l6, cell_set_at, O.nil]) rfl ⟨rfl, A2.loses (K1 := [_, _, _]) ?_⟩
  (repeat' (first | with_reducible exact Chg.refl _ _ | with_reducible refine Chg.drewN ?_ _ | with_reducible refine Chg.drew ?_ | with_reducible refine Chg.alloc ?_ _ | with_reducible refine Chg.at (by simp) ?_ _ _))

set_option maxRecDepth 100000 in
set_option maxHeartbeats 8000000 in
theorem at_dgetNone {w0 w : World} {hp : Nat} {L : List C} {M : List (Nat × List C)} {K : List (Nat × Obj)} (A : Ats w0 w M K) (hm : (hp, L) ∈ M) (N : Nat) (ps : List (O × O)) (room : Nat) (D : DicAt L N (dcell ps room)) (h : ps.length ≤ room) (hr : room ≤ 1000) (hf : ps.length < 256)
    (k : O) {key : O} (hk : keyD L k = (key, 0)) (r : Nat) (hp1 : PlaceS ps key r false) :
    Calls Try.prog 17 #[ptr hp, (dicO N).val, k.val] w fun x w' => x = .returned (.tuple #[O.nil.val, .int .i64 9]) ∧ Ats w0 w' M K := by
  have HL := fun {w' : World} {K' : List (Nat × Obj)} (A' : Ats w0 w' M K') => at_look A' hm N ps room D h hr hf k hk r false (fun _ => hp1) (fun z => absurd rfl z)
  obtain ⟨kk, kx, kn, kp, kl, ks⟩ := k
  obtain ⟨ck, cx, cn, cp, cl, cs⟩ := key
  have A1 := ((A.alloc (.cells #[.int .i64 10, .bool false, .int .i64 N, .int .i64 0, .int .i64 0, .string ⟨#[]⟩] 28)).alloc (.cells #[.int .i64 kk, .bool kx, .int .i64 kn, .int .i64 kp, .int .i64 kl, .string ks] 28)).alloc (.cells #[.int .i64 0, .bool false, .int .i64 0, .int .i64 0, .int .i64 0, .string ⟨#[]⟩] 28)
  simp only [World.size_alloc] at A1
  go_enter Try.func17, Try.ntmps17
  go_wp2_with fail
  refine (HL A1).mono ?_
  rintro x w2 ⟨rfl, A2⟩
  have R6 := cells_of (A2.box _ (List.mem_cons_self ..))
  have Z6 := free_of (A2.box _ (List.mem_cons_self ..))
  have l6 := blk_lt (A2.box _ (List.mem_cons_self ..))
  simp only at l6
  clear HL A1
  go_wp2
  refine bodyPost_ret (v := .tuple #[O.nil.val, .int .i64 9]) (by simp [results, Try.results17, go_sem, R6, l6, cell_set_at, O.nil]) rfl ⟨rfl, A2.loses (K1 := [_, _, _]) ?_⟩
  (repeat' (first | with_reducible exact Chg.refl _ _ | with_reducible refine Chg.drewN ?_ _ | with_reducible refine Chg.drew ?_ | with_reducible refine Chg.alloc ?_ _ | with_reducible refine Chg.at (by simp) ?_ _ _))

theorem get_pair {L : List C} {N : Nat} {ps : List (O × O)} {room : Nat} (D : DicAt L N (dcell ps room)) (h : ps.length ≤ room) (r : Nat) (kk v : O) (hv : ps[r]? = some (kk, v)) : getH L (dicO N) (2 * (r : Int) + 2) = (v, 0) := D.get _ (by omega) _ (by
  have hl := (List.getElem?_eq_some_iff.1 hv).1
  rw [show (2 * (r : Int) + 2).toNat = 2 * r + 2 by omega, dItems_at ps room h _ (by omega), if_neg (by omega), show (2 * r + 2 - 1) / 2 = r by omega, hv]
  have : ¬ (2 * r + 2) % 2 = 1 := by omega
  simp [this])

set_option maxRecDepth 100000 in
set_option maxHeartbeats 8000000 in
theorem at_dgetSome {w0 w : World} {hp : Nat} {L : List C} {M : List (Nat × List C)} {K : List (Nat × Obj)} (A : Ats w0 w M K) (hm : (hp, L) ∈ M) (N : Nat) (ps : List (O × O)) (room : Nat) (D : DicAt L N (dcell ps room)) (h : ps.length ≤ room) (hr : room ≤ 1000) (hf : ps.length < 256)
    (k : O) {key : O} (hk : keyD L k = (key, 0)) (r : Nat) (hp1 : PlaceS ps key r true) (kk' v : O) (hv : ps[r]? = some (kk', v)) :
    Calls Try.prog 17 #[ptr hp, (dicO N).val, k.val] w fun x w' => x = .returned (.tuple #[v.val, .int .i64 0]) ∧ Ats w0 w' M K := by
  have HL := fun {w' : World} {K' : List (Nat × Obj)} (A' : Ats w0 w' M K') => at_look A' hm N ps room D h hr hf k hk r true (fun _ => hp1) (fun z => absurd rfl z)
  have HV := get_pair D h r kk' v hv
  have hrl : (r : Int) < 1000 := by have := (List.getElem?_eq_some_iff.1 hv).1; omega
  obtain ⟨kk, kx, kn, kp, kl, ks⟩ := k
  obtain ⟨ck, cx, cn, cp, cl, cs⟩ := key
  obtain ⟨vk, vx, vn, vp, vl, vs⟩ := v
  have A1 := ((A.alloc (.cells #[.int .i64 10, .bool false, .int .i64 N, .int .i64 0, .int .i64 0, .string ⟨#[]⟩] 28)).alloc (.cells #[.int .i64 kk, .bool kx, .int .i64 kn, .int .i64 kp, .int .i64 kl, .string ks] 28)).alloc (.cells #[.int .i64 0, .bool false, .int .i64 0, .int .i64 0, .int .i64 0, .string ⟨#[]⟩] 28)
  simp only [World.size_alloc] at A1
  go_enter Try.func17, Try.ntmps17
  go_wp2_with fail
  refine (HL A1).mono ?_
  rintro x w2 ⟨rfl, A2⟩
  have R4 := cells_of (A2.box _ (List.mem_cons_of_mem _ (List.mem_cons_of_mem _ (List.mem_cons_self ..))))
  have l4 := blk_lt (A2.box _ (List.mem_cons_of_mem _ (List.mem_cons_of_mem _ (List.mem_cons_self ..))))
  simp only at l4
  clear HL A1
  go_wp2_with fail
  refine (at_get (A2.pure ((Chg.refl NoB w2).alloc _)) _ _ HV hm).mono ?_
  rintro x w3 ⟨rfl, A3⟩
  have R6 := cells_of (A3.box _ (List.mem_cons_self ..))
  have Z6 := free_of (A3.box _ (List.mem_cons_self ..))
  have l6 := blk_lt (A3.box _ (List.mem_cons_self ..))
  simp only at l6
  clear R4 A2
  go_wp2
  refine bodyPost_ret (v := .tuple #[(⟨vk, vx, vn, vp, vl, vs⟩ : O).val, .int .i64 0]) (by simp [results, Try.results17, go_sem, R6, l6, cell_set_at]) rfl ⟨rfl, A3.loses (K1 := [_, _, _]) ?_⟩
  (repeat' (first | with_reducible exact Chg.refl _ _ | with_reducible refine Chg.drewN ?_ _ | with_reducible refine Chg.drew ?_ | with_reducible refine Chg.alloc ?_ _ | with_reducible refine Chg.at (by simp) ?_ _ _))
end Go.Proofs.Ytgllgemjfpiogaa
