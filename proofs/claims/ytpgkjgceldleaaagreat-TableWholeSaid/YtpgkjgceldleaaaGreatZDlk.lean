/- dict.Set and Drop at a locked dictionary. -/
import Derived.Test.YtpgkjgceldleaaaGreatZDictc
namespace Go.Proofs.YtpgkjgceldleaaaGreat
open Go.RowKit

theorem DicAt.setLk {L : List C} {N : Nat} {c : C} (D : DicAt L N c) (e4 : c.locked = true) (i : Int) (h0 : 0 ≤ i) (h1 : i < c.items.length) (x : O) : setH L (dicO N) i x = (L, 1) := by
  have e1 := D.cell
  have e2 := D.size
  have e3 := D.text
  unfold setH
  rw [D.find]
  simp only [ne_eq, not_true_eq_false, if_false, Int.toNat_natCast, e1, lenOf, if_true, e2, e3, e4, atOf, Int.zero_add, Bool.false_eq_true]
  rw [if_neg (by omega)]
set_option maxRecDepth 100000 in
set_option maxHeartbeats 8000000 in
theorem at_dsetLk {w0 w : World} {hp : Nat} {L : List C} {M : List (Nat × List C)} {K : List (Nat × Obj)} (A : Ats w0 w ((hp, L) :: M) K) (N : Nat) (ps : List (O × O)) (room : Nat) (D : DicAt L N (dcellk true ps room)) (h : ps.length ≤ room) (hr : room ≤ 1000) (hf : ps.length < 256)
    (k v : O) {key : O} (hk : keyD L k = (key, 0)) (hg : (getK ps key).isSome = true) :
    Calls Tryz.prog 56 #[ptr hp, (dicO N).val, k.val, v.val] w fun x w' => x = .returned (.int .i64 1) ∧ Ats w0 w' ((hp, L) :: M) K := by
  obtain ⟨r, b, hP, hQ⟩ := place_at ps key v
  obtain ⟨rfl, u1, u2, hu, -⟩ | ⟨-, h2, -⟩ := hQ
  case inr => rw [h2] at hg; simp at hg
  have hrl : r < ps.length := (List.getElem?_eq_some_iff.1 hu).1
  have HL := fun {w' : World} {K' : List (Nat × Obj)} (A' : Ats w0 w' ((hp, L) :: M) K') => at_look A' (List.mem_cons_self ..) N ps room D h hr hf k hk r true (fun _ => hP) (fun z => absurd rfl z)
  have HM := fun {w' : World} {K' : List (Nat × Obj)} (A' : Ats w0 w' ((hp, L) :: M) K') => at_may A' v rfl (List.mem_cons_self ..)
  have S := D.setLk rfl (2 * (r : Int) + 2) (by omega) (by simp only [dItems_length ps room h]; omega) v
  have hri : (r : Int) ≤ 1000 := by omega
  have hli : (ps.length : Int) ≤ 1000 := by omega
  generalize mayH L v = mb at *
  clear hk hP D h hu hg
  obtain ⟨kk, kx, kn, kp, kl, ks⟩ := k
  obtain ⟨ck, cx, cn, cp, cl, cs⟩ := key
  obtain ⟨vk, vx, vn, vp, vl, vs⟩ := v
  have A1 := ((A.alloc (.cells #[.int .i64 10, .bool false, .int .i64 N, .int .i64 0, .int .i64 0, .string ⟨#[]⟩] 38)).alloc (.cells #[.int .i64 kk, .bool kx, .int .i64 kn, .int .i64 kp, .int .i64 kl, .string ks] 38)).alloc (.cells #[.int .i64 vk, .bool vx, .int .i64 vn, .int .i64 vp, .int .i64 vl, .string vs] 38)
  simp only [World.size_alloc] at A1
  go_enter Tryz.func56, Tryz.ntmps56
  go_wp2_with fail
  refine (HL A1).mono ?_
  rintro x w2 ⟨rfl, A2⟩
  have R7 := cells_of (A2.box _ (List.mem_cons_self ..))
  have l7 := blk_lt (A2.box _ (List.mem_cons_self ..))
  simp only at l7
  clear HL A1
  go_wp2_with fail
  have A3 := A2.alloc (.cells (foundC ⟨ck, cx, cn, cp, cl, cs⟩ r ps.length room true) 92)
  refine (HM A3).mono ?_
  rintro x w3 ⟨rfl, A4⟩
  have R9 := cells_of (A4.box _ (List.mem_cons_self ..))
  have R7' := cells_of (A4.box _ (List.mem_cons_of_mem _ (List.mem_cons_self ..)))
  have R5 := cells_of (A4.box _ (List.mem_cons_of_mem _ (List.mem_cons_of_mem _ (List.mem_cons_of_mem _ (List.mem_cons_self ..)))))
  clear R7 A2 A3 HM
  cases mb
  · go_wp2_with fail
    go_ret
    exact ⟨rfl, A4.loses (K1 := [_, _, _, _]) (Chg.refl _ _)⟩
  · go_wp2_with fail
    refine (at_set A4 _ _ _ S).mono ?_
    rintro x w4 ⟨rfl, A5⟩
    go_wp2
    go_ret
    exact ⟨rfl, A5.loses (K1 := [_, _, _, _]) (Chg.refl _ _)⟩
set_option maxRecDepth 100000 in
set_option maxHeartbeats 8000000 in
theorem at_ddropLk {w0 w : World} {hp : Nat} {L : List C} {M : List (Nat × List C)} {K : List (Nat × Obj)} (A : Ats w0 w ((hp, L) :: M) K) (N : Nat) (ps : List (O × O)) (room : Nat) (D : DicAt L N (dcellk true ps room)) (h : ps.length ≤ room) (hr : room ≤ 1000) (hf : ps.length < 256)
    (k : O) {key : O} (hk : keyD L k = (key, 0)) (hg : (getK ps key).isSome = true) :
    Calls Tryz.prog 150 #[ptr hp, (dicO N).val, k.val] w fun x w' => x = .returned (.int .i64 1) ∧ Ats w0 w' ((hp, L) :: M) K := by
  obtain ⟨r, b, hP, hQ⟩ := place_at ps key O.nil
  obtain ⟨rfl, u1, u2, hu, -⟩ | ⟨-, h2, -⟩ := hQ
  case inr => rw [h2] at hg; simp at hg
  have hrl : r < ps.length := (List.getElem?_eq_some_iff.1 hu).1
  have HL := fun {w' : World} {K' : List (Nat × Obj)} (A' : Ats w0 w' ((hp, L) :: M) K') => at_look A' (List.mem_cons_self ..) N ps room D h hr hf k hk r true (fun _ => hP) (fun z => absurd rfl z)
  have S := D.setLk rfl 0 (by omega) (by simp only [dItems_length ps room h]; omega) (numO ((ps.length : Int) - 1))
  have hri : (r : Int) ≤ 1000 := by omega
  have hli : (ps.length : Int) ≤ 1000 := by omega
  clear hk hP D h hu hg
  obtain ⟨kk, kx, kn, kp, kl, ks⟩ := k
  obtain ⟨ck, cx, cn, cp, cl, cs⟩ := key
  have A1 := (A.alloc (.cells #[.int .i64 10, .bool false, .int .i64 N, .int .i64 0, .int .i64 0, .string ⟨#[]⟩] 38)).alloc (.cells #[.int .i64 kk, .bool kx, .int .i64 kn, .int .i64 kp, .int .i64 kl, .string ks] 38)
  simp only [World.size_alloc] at A1
  go_enter Tryz.func150, Tryz.ntmps150
  go_wp2_with fail
  refine (HL A1).mono ?_
  rintro x w2 ⟨rfl, A2⟩
  have R4 := cells_of (A2.box _ (List.mem_cons_of_mem _ (List.mem_cons_self ..)))
  have l4 := blk_lt (A2.box _ (List.mem_cons_of_mem _ (List.mem_cons_self ..)))
  simp only at l4
  clear HL A1
  go_wp2_with fail
  have A3 := A2.alloc (.cells (foundC ⟨ck, cx, cn, cp, cl, cs⟩ r ps.length room true) 92)
  refine (at_set A3 _ _ _ S).mono ?_
  rintro x w3 ⟨rfl, A4⟩
  go_wp2_with fail
  go_ret
  exact ⟨rfl, A4.loses (K1 := [_, _, _]) (Chg.refl _ _)⟩
end Go.Proofs.YtpgkjgceldleaaaGreat
