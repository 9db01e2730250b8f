/- dict.Set and Pairs, on a heap that a law made. -/
import Derived.Test.YtgllgemjfpiogaaDn
namespace Go.Proofs.Ytgllgemjfpiogaa
open Go.RowKit

theorem may_num (L : List C) (v : Int) (h : -2147483647 ≤ v) (h' : v ≤ 2147483647) : mayH L (numO v) = true := by
  simp [mayH, held, mayO, eqO, bareO, O.nil]
  omega
theorem DicAt.step {L : List C} {N : Nat} {c : C} (D : DicAt L N c) (i : Nat) (hi : i < c.items.length) (x : O) (hx : mayH L x = true) :
    setH L (dicO N) (i : Int) x = (L.set N { c with items := c.items.set i x }, 0) ∧ DicAt (L.set N { c with items := c.items.set i x }) N { c with items := c.items.set i x } ∧ ∀ o, mayH (L.set N { c with items := c.items.set i x }) o = mayH L o := by
  refine ⟨?_, D.put _ D.text D.dict D.free (by simp), fun o => may_put L N c { c with items := c.items.set i x } D.cell rfl (by simp [C.size, D.text]) o⟩
  have := D.set (i : Int) (by omega) (by omega) x hx
  rwa [Int.toNat_natCast] at this
theorem set_there {L : List C} {N : Nat} {ps : List (O × O)} {room : Nat} (D : DicAt L N (dcell ps room)) (h : ps.length ≤ room) (r : Nat) (kk u v : O) (hv : ps[r]? = some (kk, u)) (hm : mayH L v = true) :
    setH L (dicO N) (2 * (r : Int) + 2) v = (L.set N (dcell (ps.set r (kk, v)) room), 0) := by
  have hl := (List.getElem?_eq_some_iff.1 hv).1
  have := (D.step (2 * r + 2) (by simp [dItems_length ps room h]; omega) v hm).1
  rw [show ((2 * r + 2 : Nat) : Int) = 2 * (r : Int) + 2 by omega] at this
  simp only [dItems_set ps room r h kk v u hv] at this
  exact this
theorem set_zero {L : List C} {N : Nat} {ps : List (O × O)} {room : Nat} (D : DicAt L N (dcell ps room)) (h : ps.length ≤ room) (hr : room ≤ 1000) : setH L (dicO N) 0 (numO ps.length) = (L, 0) := by
  have := (D.step 0 (by simp [dItems_length ps room h]) (numO ps.length) (may_num _ _ (by omega) (by omega))).1
  have e : (dItems ps room).set 0 (numO ps.length) = dItems ps room := by simp [dItems]
  simp only [e] at this
  rw [show (((0 : Nat) : Int)) = 0 from rfl] at this
  rw [this]
  have e2 : L.set N (dcell ps room) = L := by
    apply List.ext_getElem?
    intro j
    rw [List.getElem?_set]
    by_cases hj : N = j
    · subst hj; rw [if_pos rfl, if_pos D.lt]; exact D.cell.symm
    · rw [if_neg hj]
  rw [e2]

set_option maxRecDepth 100000 in
set_option maxHeartbeats 4000000 in
theorem at_dfull {w0 w : World} {hp : Nat} {L : List C} {M : List (Nat × List C)} {K : List (Nat × Obj)} (A : Ats w0 w ((hp, L) :: M) K) (N : Nat) (ps : List (O × O)) (room : Nat) (D : DicAt L N (dcell ps room)) (h : ps.length ≤ room) (hr : room ≤ 1000) :
    Calls Try.prog 42 #[ptr hp, (dicO N).val] w fun x w' => x = .returned (.int .i64 20) ∧ Ats w0 w' ((hp, L) :: M) K := by
  have e0 : (dcell ps room).items[(0 : Int).toNat]? = some (numO ps.length) := by simp [dItems]
  have S2 := D.get 0 (by omega) _ e0
  have S3 := set_zero D h hr
  have A1 := A.alloc (.cells #[.int .i64 10, .bool false, .int .i64 N, .int .i64 0, .int .i64 0, .string ⟨#[]⟩] 28)
  go_enter Try.func42, Try.ntmps42
  go_wp2_with fail
  refine (at_get A1 _ _ S2 (List.mem_cons_self ..)).mono ?_
  rintro x w2 ⟨rfl, A2⟩
  have R3 := cells_of (A2.box _ (List.mem_cons_self ..))
  have l3 := blk_lt (A2.box _ (List.mem_cons_self ..))
  simp only at l3
  clear A1
  go_wp2_with fail
  refine (at_set (A2.alloc _) _ _ _ S3).mono ?_
  rintro x w3 ⟨rfl, A3⟩
  clear R3 A2
  go_wp2
  go_ret
  exact ⟨rfl, (A3.keep (List.sublist_cons_self _ _)).keep (List.sublist_cons_self _ _)⟩

set_option maxRecDepth 100000 in
set_option maxHeartbeats 8000000 in
theorem at_dsetErr {w0 w : World} {hp : Nat} {L : List C} {M : List (Nat × List C)} {K : List (Nat × Obj)} (A : Ats w0 w M K) (hm : (hp, L) ∈ M) (N : Nat) (ps : List (O × O)) (room : Nat) (D : DicAt L N (dcell ps room)) (h : ps.length ≤ room) (hr : room ≤ 1000) (hf : ps.length < 256)
    (k v : O) {key : O} {e : Int} (hk : keyD L k = (key, e)) (he : e ≠ 0) :
    Calls Try.prog 16 #[ptr hp, (dicO N).val, k.val, v.val] w fun x w' => x = .returned (.int .i64 e) ∧ Ats w0 w' M K := by
  have HL := fun {w' : World} {K' : List (Nat × Obj)} (A' : Ats w0 w' M K') => at_look A' hm N ps room D h hr hf k hk 0 false (fun z => absurd z he) (fun _ => ⟨rfl, rfl⟩)
  obtain ⟨kk, kx, kn, kp, kl, ks⟩ := k
  obtain ⟨vk, vx, vn, vp, vl, vs⟩ := v
  have he' : (e != 0) = true := by simpa using he
  have A1 := ((A.alloc (.cells #[.int .i64 10, .bool false, .int .i64 N, .int .i64 0, .int .i64 0, .string ⟨#[]⟩] 28)).alloc (.cells #[.int .i64 kk, .bool kx, .int .i64 kn, .int .i64 kp, .int .i64 kl, .string ks] 28)).alloc (.cells #[.int .i64 vk, .bool vx, .int .i64 vn, .int .i64 vp, .int .i64 vl, .string vs] 28)
  simp only [World.size_alloc] at A1
  go_enter Try.func16, Try.ntmps16
  go_wp2_with fail
  refine (HL A1).mono ?_
  rintro x w2 ⟨rfl, A2⟩
  clear HL A1
  go_wp2
  go_ret
  exact ⟨rfl, (A2.pure ((Chg.refl NoB w2).alloc _)).loses (K1 := [_, _, _]) (Chg.refl _ _)⟩

set_option maxRecDepth 100000 in
set_option maxHeartbeats 8000000 in
theorem at_dset {w0 w : World} {hp : Nat} {L : List C} {M : List (Nat × List C)} {K : List (Nat × Obj)} (A : Ats w0 w ((hp, L) :: M) K) (N : Nat) (ps : List (O × O)) (room : Nat) (D : DicAt L N (dcell ps room)) (h : ps.length ≤ room) (hr : room ≤ 1000) (hf : ps.length < 256)
    (k v : O) {key : O} (hk : keyD L k = (key, 0)) (hmv : mayH L v = true) (hmk : mayH L key = true) (r : Nat) (b : Bool) (hp1 : PlaceS ps key r b) {L' : List C} {e : Int}
    (hc : (b = true ∧ e = 0 ∧ ∃ kk u, ps[r]? = some (kk, u) ∧ L' = L.set N (dcell (ps.set r (kk, v)) room)) ∨ (b = false ∧ ps.length < room ∧ e = 0 ∧ L' = L.set N (dcell (ps ++ [(key, v)]) room)) ∨ (b = false ∧ ps.length = room ∧ e = 20 ∧ L' = L)) :
    Calls Try.prog 16 #[ptr hp, (dicO N).val, k.val, v.val] w fun x w' => x = .returned (.int .i64 e) ∧ Ats w0 w' ((hp, L') :: M) K := by
  have HL := fun {w' : World} {K' : List (Nat × Obj)} (A' : Ats w0 w' ((hp, L) :: M) K') => at_look A' (List.mem_cons_self ..) N ps room D h hr hf k hk r b (fun _ => hp1) (fun z => absurd rfl z)
  have HM := fun {w' : World} {K' : List (Nat × Obj)} (A' : Ats w0 w' ((hp, L) :: M) K') => at_may A' v hmv (List.mem_cons_self ..)
  have HF := fun {w' : World} {K' : List (Nat × Obj)} (A' : Ats w0 w' ((hp, L) :: M) K') => at_dfull A' N ps room D h hr
  have HT := fun (r : Nat) (kk u : O) (hv : ps[r]? = some (kk, u)) => set_there D h r kk u v hv hmv
  have hr1 : r ≤ ps.length := by
    rcases hp1 with ⟨-, ⟨p, hp, -⟩, -⟩ | ⟨-, h0, -⟩
    · have := (List.getElem?_eq_some_iff.1 hp).1; omega
    · omega
  have hri : (r : Int) ≤ 1000 := by omega
  have hli : (ps.length : Int) ≤ 1000 := by omega
  have hN := ps.length < room → (∃ L1 L2, setH L (dicO N) (2 * (ps.length : Int) + 1) key = (L1, 0) ∧ setH L1 (dicO N) (2 * (ps.length : Int) + 2) v = (L2, 0) ∧ setH L2 (dicO N) 0 (numO ((ps.length : Int) + 1)) = (L.set N (dcell (ps ++ [(key, v)]) room), 0))
  have HN : ps.length < room → (∃ L1 L2, setH L (dicO N) (2 * (ps.length : Int) + 1) key = (L1, 0) ∧ setH L1 (dicO N) (2 * (ps.length : Int) + 2) v = (L2, 0) ∧ setH L2 (dicO N) 0 (numO ((ps.length : Int) + 1)) = (L.set N (dcell (ps ++ [(key, v)]) room), 0)) := fun hlt => by
    have hdl := dItems_length ps room h
    obtain ⟨s1, D1, m1⟩ := D.step (2 * ps.length + 1) (by simp [hdl]; omega) key hmk
    obtain ⟨s2, D2, m2⟩ := D1.step (2 * ps.length + 2) (by simp [hdl]; omega) v (by rw [m1]; exact hmv)
    obtain ⟨s3, -, -⟩ := D2.step 0 (by simp [hdl]) (numO ((ps.length : Int) + 1)) (may_num _ _ (by omega) (by omega))
    rw [show ((2 * ps.length + 1 : Nat) : Int) = 2 * (ps.length : Int) + 1 by omega] at s1
    rw [show ((2 * ps.length + 2 : Nat) : Int) = 2 * (ps.length : Int) + 2 by omega] at s2
    simp only [set_set_same, dItems_push ps room hlt key v] at s3
    exact ⟨_, _, s1, s2, by rw [set_set_same]; exact s3⟩
  clear hN hk hmv hmk hp1 D h
  obtain ⟨kk, kx, kn, kp, kl, ks⟩ := k
  obtain ⟨ck, cx, cn, cp, cl, cs⟩ := key
  obtain ⟨vk, vx, vn, vp, vl, vs⟩ := v
  have A1 := ((A.alloc (.cells #[.int .i64 10, .bool false, .int .i64 N, .int .i64 0, .int .i64 0, .string ⟨#[]⟩] 28)).alloc (.cells #[.int .i64 kk, .bool kx, .int .i64 kn, .int .i64 kp, .int .i64 kl, .string ks] 28)).alloc (.cells #[.int .i64 vk, .bool vx, .int .i64 vn, .int .i64 vp, .int .i64 vl, .string vs] 28)
  simp only [World.size_alloc] at A1
  have HC := Hid.mk' hc
  clear hc
  go_enter Try.func16, Try.ntmps16
  go_wp2_with fail
  refine (HL A1).mono ?_
  rintro x w2 ⟨rfl, A2⟩
  have R7 := cells_of (A2.box _ (List.mem_cons_self ..))
  have l7 := blk_lt (A2.box _ (List.mem_cons_self ..))
  simp only at l7
  clear HL A1
  go_wp2_with fail
  have A3 := A2.alloc (.cells (foundC ⟨ck, cx, cn, cp, cl, cs⟩ r ps.length room b) 81)
  refine (HM A3).mono ?_
  rintro x w3 ⟨rfl, A4⟩
  have R9 := cells_of (A4.box _ (List.mem_cons_self ..))
  have R7' := cells_of (A4.box _ (List.mem_cons_of_mem _ (List.mem_cons_self ..)))
  have R5 := cells_of (A4.box _ (List.mem_cons_of_mem _ (List.mem_cons_of_mem _ (List.mem_cons_of_mem _ (List.mem_cons_self ..)))))
  clear R7 A2 A3 HM
  rcases HC.out with ⟨rfl, rfl, u1, u2, hu, rfl⟩ | ⟨rfl, hlt, rfl, rfl⟩ | ⟨rfl, heq, rfl, rfl⟩
  · have S := HT r u1 u2 hu
    clear HT HN HF
    go_wp2_with fail
    refine (at_set A4 _ _ _ S).mono ?_
    rintro x w4 ⟨rfl, A5⟩
    go_wp2
    go_ret
    exact ⟨rfl, A5.loses (K1 := [_, _, _, _]) (Chg.refl _ _)⟩
  · obtain ⟨L1, L2, s1, s2, s3⟩ := HN hlt
    have hlt' : (ps.length : Int) < room := by omega
    clear HT HN HF
    go_wp2_with fail
    refine (at_set A4 _ _ _ s1).mono ?_
    rintro x w4 ⟨rfl, A5⟩
    clear R9 R7' R5 A4
    have R9 := cells_of (A5.box _ (List.mem_cons_self ..))
    have R7' := cells_of (A5.box _ (List.mem_cons_of_mem _ (List.mem_cons_self ..)))
    have R5 := cells_of (A5.box _ (List.mem_cons_of_mem _ (List.mem_cons_of_mem _ (List.mem_cons_of_mem _ (List.mem_cons_self ..)))))
    go_wp2_with fail
    refine (at_set A5 _ _ _ s2).mono ?_
    rintro x w5 ⟨rfl, A6⟩
    clear R9 R7' R5 A5
    have R9 := cells_of (A6.box _ (List.mem_cons_self ..))
    have R5 := cells_of (A6.box _ (List.mem_cons_of_mem _ (List.mem_cons_of_mem _ (List.mem_cons_of_mem _ (List.mem_cons_self ..)))))
    go_wp2_with fail
    refine (at_set A6 _ _ _ s3).mono ?_
    rintro x w6 ⟨rfl, A7⟩
    clear R9 R5 A6
    go_wp2
    go_ret
    exact ⟨rfl, A7.loses (K1 := [_, _, _, _]) (Chg.refl _ _)⟩
  · have hle : (room : Int) ≤ ps.length := by omega
    clear HT HN
    go_wp2_with fail
    refine (HF A4).mono ?_
    rintro x w4 ⟨rfl, A5⟩
    go_wp2
    go_ret
    exact ⟨rfl, A5.loses (K1 := [_, _, _, _]) (Chg.refl _ _)⟩
end Go.Proofs.Ytgllgemjfpiogaa
