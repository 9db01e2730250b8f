/- Dn, Ds, Dp, Dy -/
import Derived.Test.YtpgkjgceldleaaaZDicta
import Derived.Test.YtpgkjgceldleaaaZHeapc
/- dict.New and Get, on a heap that a law made. -/
namespace Go.Proofs.Ytpgkjgceldleaaa
open Go.RowKit

set_option maxRecDepth 100000 in
theorem at_dnew {w0 w : World} {hp : Nat} {L : List C} {M : List (Nat × List C)} {K : List (Nat × Obj)} (A : Ats w0 w ((hp, L) :: M) K) (n : Int) {L' : List C} {o : O} {e : Int} (hr : dictH L n = (L', o, e)) :
    Calls Try.prog 25 #[ptr hp, .int .i64 n] w fun x w' => x = .returned (.tuple #[o.val, .int .i64 e]) ∧ Ats w0 w' ((hp, L') :: M) K := by
  obtain ⟨k, ex, m, p, le, s⟩ := o
  have A1 := A.alloc (.cells #[.int .i64 0, .bool false, .int .i64 0, .int .i64 0, .int .i64 0, .string ⟨#[]⟩] 36)
  go_enter Try.func25, Try.ntmps25
  go_wp2_with fail
  refine (at_dict A1 n hr).mono ?_
  rintro x w2 ⟨rfl, A2⟩
  have R4 := cells_of (A2.box _ (List.mem_cons_self ..))
  have Z4 := free_of (A2.box _ (List.mem_cons_self ..))
  have l4 := blk_lt (A2.box _ (List.mem_cons_self ..))
  simp only at l4
  clear A1
  go_wp2
  refine bodyPost_ret (v := .tuple #[(⟨k, ex, m, p, le, s⟩ : O).val, .int .i64 e]) (by simp [results, Try.results25, go_sem, R4, cell_set_at]) rfl ⟨rfl, A2.loses (K1 := [_]) ?_⟩
  (repeat' (first | with_reducible exact Chg.refl _ _ | with_reducible refine Chg.drewN ?_ _ | with_reducible refine Chg.drew ?_ | with_reducible refine Chg.alloc ?_ _ | with_reducible refine Chg.at (by simp) ?_ _ _))

set_option maxRecDepth 100000 in
set_option maxHeartbeats 8000000 in
theorem at_dgetErr {lk : Bool} {w0 w : World} {hp : Nat} {L : List C} {M : List (Nat × List C)} {K : List (Nat × Obj)} (A : Ats w0 w M K) (hm : (hp, L) ∈ M) (N : Nat) (ps : List (O × O)) (room : Nat) (D : DicAt L N (dcellk lk ps room)) (h : ps.length ≤ room) (hr : room ≤ 1000) (hf : ps.length < 256)
    (k : O) {key : O} {e : Int} (hk : keyD L k = (key, e)) (he : e ≠ 0) :
    Calls Try.prog 55 #[ptr hp, (dicO N).val, k.val] w fun x w' => x = .returned (.tuple #[O.nil.val, .int .i64 e]) ∧ Ats w0 w' M K := by
  have HL := fun {w' : World} {K' : List (Nat × Obj)} (A' : Ats w0 w' M K') => at_look A' hm N ps room D h hr hf k hk 0 false (fun z => absurd z he) (fun _ => ⟨rfl, rfl⟩)
  obtain ⟨kk, kx, kn, kp, kl, ks⟩ := k
  obtain ⟨ck, cx, cn, cp, cl, cs⟩ := key
  have he' : (e != 0) = true := by simpa using he
  have A1 := ((A.alloc (.cells #[.int .i64 10, .bool false, .int .i64 N, .int .i64 0, .int .i64 0, .string ⟨#[]⟩] 36)).alloc (.cells #[.int .i64 kk, .bool kx, .int .i64 kn, .int .i64 kp, .int .i64 kl, .string ks] 36)).alloc (.cells #[.int .i64 0, .bool false, .int .i64 0, .int .i64 0, .int .i64 0, .string ⟨#[]⟩] 36)
  simp only [World.size_alloc] at A1
  go_enter Try.func55, Try.ntmps55
  go_wp2_with fail
  refine (HL A1).mono ?_
  rintro x w2 ⟨rfl, A2⟩
  have R6 := cells_of (A2.box _ (List.mem_cons_self ..))
  have Z6 := free_of (A2.box _ (List.mem_cons_self ..))
  have l6 := blk_lt (A2.box _ (List.mem_cons_self ..))
  simp only at l6
  clear HL A1
  go_wp2
  refine bodyPost_ret (v := .tuple #[O.nil.val, .int .i64 e]) (by simp [results, Try.results55, go_sem, R6, l6, cell_set_at, O.nil]) rfl ⟨rfl, A2.loses (K1 := [_, _, _]) ?_⟩
  (repeat' (first | with_reducible exact Chg.refl _ _ | with_reducible refine Chg.drewN ?_ _ | with_reducible refine Chg.drew ?_ | with_reducible refine Chg.alloc ?_ _ | with_reducible refine Chg.at (by simp) ?_ _ _))

set_option maxRecDepth 100000 in
set_option maxHeartbeats 8000000 in
theorem at_dgetNone {lk : Bool} {w0 w : World} {hp : Nat} {L : List C} {M : List (Nat × List C)} {K : List (Nat × Obj)} (A : Ats w0 w M K) (hm : (hp, L) ∈ M) (N : Nat) (ps : List (O × O)) (room : Nat) (D : DicAt L N (dcellk lk ps room)) (h : ps.length ≤ room) (hr : room ≤ 1000) (hf : ps.length < 256)
    (k : O) {key : O} (hk : keyD L k = (key, 0)) (r : Nat) (hp1 : PlaceS ps key r false) :
    Calls Try.prog 55 #[ptr hp, (dicO N).val, k.val] w fun x w' => x = .returned (.tuple #[O.nil.val, .int .i64 9]) ∧ Ats w0 w' M K := by
  have HL := fun {w' : World} {K' : List (Nat × Obj)} (A' : Ats w0 w' M K') => at_look A' hm N ps room D h hr hf k hk r false (fun _ => hp1) (fun z => absurd rfl z)
  obtain ⟨kk, kx, kn, kp, kl, ks⟩ := k
  obtain ⟨ck, cx, cn, cp, cl, cs⟩ := key
  have A1 := ((A.alloc (.cells #[.int .i64 10, .bool false, .int .i64 N, .int .i64 0, .int .i64 0, .string ⟨#[]⟩] 36)).alloc (.cells #[.int .i64 kk, .bool kx, .int .i64 kn, .int .i64 kp, .int .i64 kl, .string ks] 36)).alloc (.cells #[.int .i64 0, .bool false, .int .i64 0, .int .i64 0, .int .i64 0, .string ⟨#[]⟩] 36)
  simp only [World.size_alloc] at A1
  go_enter Try.func55, Try.ntmps55
  go_wp2_with fail
  refine (HL A1).mono ?_
  rintro x w2 ⟨rfl, A2⟩
  have R6 := cells_of (A2.box _ (List.mem_cons_self ..))
  have Z6 := free_of (A2.box _ (List.mem_cons_self ..))
  have l6 := blk_lt (A2.box _ (List.mem_cons_self ..))
  simp only at l6
  clear HL A1
  go_wp2
  refine bodyPost_ret (v := .tuple #[O.nil.val, .int .i64 9]) (by simp [results, Try.results55, go_sem, R6, l6, cell_set_at, O.nil]) rfl ⟨rfl, A2.loses (K1 := [_, _, _]) ?_⟩
  (repeat' (first | with_reducible exact Chg.refl _ _ | with_reducible refine Chg.drewN ?_ _ | with_reducible refine Chg.drew ?_ | with_reducible refine Chg.alloc ?_ _ | with_reducible refine Chg.at (by simp) ?_ _ _))

theorem get_pair {lk : Bool} {L : List C} {N : Nat} {ps : List (O × O)} {room : Nat} (D : DicAt L N (dcellk lk ps room)) (h : ps.length ≤ room) (r : Nat) (kk v : O) (hv : ps[r]? = some (kk, v)) : getH L (dicO N) (2 * (r : Int) + 2) = (v, 0) := D.get _ (by omega) _ (by
  have hl := (List.getElem?_eq_some_iff.1 hv).1
  rw [show (2 * (r : Int) + 2).toNat = 2 * r + 2 by omega, dItems_at ps room h _ (by omega), if_neg (by omega), show (2 * r + 2 - 1) / 2 = r by omega, hv]
  have : ¬ (2 * r + 2) % 2 = 1 := by omega
  simp)

set_option maxRecDepth 100000 in
set_option maxHeartbeats 8000000 in
theorem at_dgetSome {lk : Bool} {w0 w : World} {hp : Nat} {L : List C} {M : List (Nat × List C)} {K : List (Nat × Obj)} (A : Ats w0 w M K) (hm : (hp, L) ∈ M) (N : Nat) (ps : List (O × O)) (room : Nat) (D : DicAt L N (dcellk lk ps room)) (h : ps.length ≤ room) (hr : room ≤ 1000) (hf : ps.length < 256)
    (k : O) {key : O} (hk : keyD L k = (key, 0)) (r : Nat) (hp1 : PlaceS ps key r true) (kk' v : O) (hv : ps[r]? = some (kk', v)) :
    Calls Try.prog 55 #[ptr hp, (dicO N).val, k.val] w fun x w' => x = .returned (.tuple #[v.val, .int .i64 0]) ∧ Ats w0 w' M K := by
  have HL := fun {w' : World} {K' : List (Nat × Obj)} (A' : Ats w0 w' M K') => at_look A' hm N ps room D h hr hf k hk r true (fun _ => hp1) (fun z => absurd rfl z)
  have HV := get_pair D h r kk' v hv
  have hrl : (r : Int) < 1000 := by have := (List.getElem?_eq_some_iff.1 hv).1; omega
  obtain ⟨kk, kx, kn, kp, kl, ks⟩ := k
  obtain ⟨ck, cx, cn, cp, cl, cs⟩ := key
  obtain ⟨vk, vx, vn, vp, vl, vs⟩ := v
  have A1 := ((A.alloc (.cells #[.int .i64 10, .bool false, .int .i64 N, .int .i64 0, .int .i64 0, .string ⟨#[]⟩] 36)).alloc (.cells #[.int .i64 kk, .bool kx, .int .i64 kn, .int .i64 kp, .int .i64 kl, .string ks] 36)).alloc (.cells #[.int .i64 0, .bool false, .int .i64 0, .int .i64 0, .int .i64 0, .string ⟨#[]⟩] 36)
  simp only [World.size_alloc] at A1
  go_enter Try.func55, Try.ntmps55
  go_wp2_with fail
  refine (HL A1).mono ?_
  rintro x w2 ⟨rfl, A2⟩
  have R4 := cells_of (A2.box _ (List.mem_cons_of_mem _ (List.mem_cons_of_mem _ (List.mem_cons_self ..))))
  have l4 := blk_lt (A2.box _ (List.mem_cons_of_mem _ (List.mem_cons_of_mem _ (List.mem_cons_self ..))))
  simp only at l4
  clear HL A1
  go_wp2_with fail
  refine (at_get (A2.pure ((Chg.refl NoB w2).alloc _)) _ _ HV hm).mono ?_
  rintro x w3 ⟨rfl, A3⟩
  have R6 := cells_of (A3.box _ (List.mem_cons_self ..))
  have Z6 := free_of (A3.box _ (List.mem_cons_self ..))
  have l6 := blk_lt (A3.box _ (List.mem_cons_self ..))
  simp only at l6
  clear R4 A2
  go_wp2
  refine bodyPost_ret (v := .tuple #[(⟨vk, vx, vn, vp, vl, vs⟩ : O).val, .int .i64 0]) (by simp [results, Try.results55, go_sem, R6, cell_set_at]) rfl ⟨rfl, A3.loses (K1 := [_, _, _]) ?_⟩
  (repeat' (first | with_reducible exact Chg.refl _ _ | with_reducible refine Chg.drewN ?_ _ | with_reducible refine Chg.drew ?_ | with_reducible refine Chg.alloc ?_ _ | with_reducible refine Chg.at (by simp) ?_ _ _))
end Go.Proofs.Ytpgkjgceldleaaa
/- dict.Set and Pairs, on a heap that a law made. -/
namespace Go.Proofs.Ytpgkjgceldleaaa
open Go.RowKit

theorem may_num (L : List C) (v : Int) (h : -2147483647 ≤ v) (h' : v ≤ 2147483647) : mayH L (numO v) = true := by
  simp [mayH, held, mayO, eqO, bareO, O.nil]
  omega
theorem DicAt.step {L : List C} {N : Nat} {c : C} (D : DicAt L N c) (i : Nat) (hi : i < c.items.length) (x : O) (hx : mayH L x = true) (hf : c.locked = false := by rfl) :
    setH L (dicO N) (i : Int) x = (L.set N { c with items := c.items.set i x }, 0) ∧ DicAt (L.set N { c with items := c.items.set i x }) N { c with items := c.items.set i x } ∧ ∀ o, mayH (L.set N { c with items := c.items.set i x }) o = mayH L o := by
  refine ⟨?_, D.put _ D.text D.dict D.free (by simp), fun o => may_put L N c { c with items := c.items.set i x } D.cell rfl (by simp [C.size, D.text]) o⟩
  have := D.set (i : Int) (by omega) (by omega) x hx hf
  rwa [Int.toNat_natCast] at this
theorem set_there {L : List C} {N : Nat} {ps : List (O × O)} {room : Nat} (D : DicAt L N (dcell ps room)) (h : ps.length ≤ room) (r : Nat) (kk u v : O) (hv : ps[r]? = some (kk, u)) (hm : mayH L v = true) :
    setH L (dicO N) (2 * (r : Int) + 2) v = (L.set N (dcell (ps.set r (kk, v)) room), 0) := by
  have hl := (List.getElem?_eq_some_iff.1 hv).1
  have := (D.step (2 * r + 2) (by simp [dItems_length ps room h]; omega) v hm).1
  rw [show ((2 * r + 2 : Nat) : Int) = 2 * (r : Int) + 2 by omega] at this
  simp only [dItems_set ps room r h kk v u hv] at this
  exact this
theorem set_zero {L : List C} {N : Nat} {ps : List (O × O)} {room : Nat} (D : DicAt L N (dcell ps room)) (h : ps.length ≤ room) (hr : room ≤ 1000) : setH L (dicO N) 0 (numO ps.length) = (L, 0) := by
  have := (D.step 0 (by simp [dItems_length ps room h]) (numO ps.length) (may_num _ _ (by omega) (by omega))).1
  have e : (dItems ps room).set 0 (numO ps.length) = dItems ps room := by simp [dItems]
  simp only [e] at this
  rw [show (((0 : Nat) : Int)) = 0 from rfl] at this
  rw [this]
  have e2 : L.set N (dcell ps room) = L := by
    apply List.ext_getElem?
    intro j
    rw [List.getElem?_set]
    by_cases hj : N = j
    · subst hj; rw [if_pos rfl, if_pos D.lt]; exact D.cell.symm
    · rw [if_neg hj]
  rw [e2]

set_option maxRecDepth 100000 in
set_option maxHeartbeats 4000000 in
theorem at_dfull {w0 w : World} {hp : Nat} {L : List C} {M : List (Nat × List C)} {K : List (Nat × Obj)} (A : Ats w0 w ((hp, L) :: M) K) (N : Nat) (ps : List (O × O)) (room : Nat) (D : DicAt L N (dcell ps room)) (h : ps.length ≤ room) (hr : room ≤ 1000) :
    Calls Try.prog 51 #[ptr hp, (dicO N).val] w fun x w' => x = .returned (.int .i64 20) ∧ Ats w0 w' ((hp, L) :: M) K := by
  have e0 : (dcell ps room).items[(0 : Int).toNat]? = some (numO ps.length) := by simp [dItems]
  have S2 := D.get 0 (by omega) _ e0
  have S3 := set_zero D h hr
  have A1 := A.alloc (.cells #[.int .i64 10, .bool false, .int .i64 N, .int .i64 0, .int .i64 0, .string ⟨#[]⟩] 36)
  go_enter Try.func51, Try.ntmps51
  go_wp2_with fail
  refine (at_get A1 _ _ S2 (List.mem_cons_self ..)).mono ?_
  rintro x w2 ⟨rfl, A2⟩
  have R3 := cells_of (A2.box _ (List.mem_cons_self ..))
  have l3 := blk_lt (A2.box _ (List.mem_cons_self ..))
  simp only at l3
  clear A1
  go_wp2_with fail
  refine (at_set (A2.alloc _) _ _ _ S3).mono ?_
  rintro x w3 ⟨rfl, A3⟩
  clear R3 A2
  go_wp2
  go_ret
  exact ⟨rfl, (A3.keep (List.sublist_cons_self _ _)).keep (List.sublist_cons_self _ _)⟩

set_option maxRecDepth 100000 in
set_option maxHeartbeats 8000000 in
theorem at_dsetErr {w0 w : World} {hp : Nat} {L : List C} {M : List (Nat × List C)} {K : List (Nat × Obj)} (A : Ats w0 w M K) (hm : (hp, L) ∈ M) (N : Nat) (ps : List (O × O)) (room : Nat) (D : DicAt L N (dcell ps room)) (h : ps.length ≤ room) (hr : room ≤ 1000) (hf : ps.length < 256)
    (k v : O) {key : O} {e : Int} (hk : keyD L k = (key, e)) (he : e ≠ 0) :
    Calls Try.prog 27 #[ptr hp, (dicO N).val, k.val, v.val] w fun x w' => x = .returned (.int .i64 e) ∧ Ats w0 w' M K := by
  have HL := fun {w' : World} {K' : List (Nat × Obj)} (A' : Ats w0 w' M K') => at_look A' hm N ps room D h hr hf k hk 0 false (fun z => absurd z he) (fun _ => ⟨rfl, rfl⟩)
  obtain ⟨kk, kx, kn, kp, kl, ks⟩ := k
  obtain ⟨vk, vx, vn, vp, vl, vs⟩ := v
  have he' : (e != 0) = true := by simpa using he
  have A1 := ((A.alloc (.cells #[.int .i64 10, .bool false, .int .i64 N, .int .i64 0, .int .i64 0, .string ⟨#[]⟩] 36)).alloc (.cells #[.int .i64 kk, .bool kx, .int .i64 kn, .int .i64 kp, .int .i64 kl, .string ks] 36)).alloc (.cells #[.int .i64 vk, .bool vx, .int .i64 vn, .int .i64 vp, .int .i64 vl, .string vs] 36)
  simp only [World.size_alloc] at A1
  go_enter Try.func27, Try.ntmps27
  go_wp2_with fail
  refine (HL A1).mono ?_
  rintro x w2 ⟨rfl, A2⟩
  clear HL A1
  go_wp2
  go_ret
  exact ⟨rfl, (A2.pure ((Chg.refl NoB w2).alloc _)).loses (K1 := [_, _, _]) (Chg.refl _ _)⟩

set_option maxRecDepth 100000 in
set_option maxHeartbeats 8000000 in
theorem at_dset {w0 w : World} {hp : Nat} {L : List C} {M : List (Nat × List C)} {K : List (Nat × Obj)} (A : Ats w0 w ((hp, L) :: M) K) (N : Nat) (ps : List (O × O)) (room : Nat) (D : DicAt L N (dcell ps room)) (h : ps.length ≤ room) (hr : room ≤ 1000) (hf : ps.length < 256)
    (k v : O) {key : O} (hk : keyD L k = (key, 0)) (hmv : mayH L v = true) (hmk : mayH L key = true) (r : Nat) (b : Bool) (hp1 : PlaceS ps key r b) {L' : List C} {e : Int}
    (hc : (b = true ∧ e = 0 ∧ ∃ kk u, ps[r]? = some (kk, u) ∧ L' = L.set N (dcell (ps.set r (kk, v)) room)) ∨ (b = false ∧ ps.length < room ∧ e = 0 ∧ L' = L.set N (dcell (ps ++ [(key, v)]) room)) ∨ (b = false ∧ ps.length = room ∧ e = 20 ∧ L' = L)) :
    Calls Try.prog 27 #[ptr hp, (dicO N).val, k.val, v.val] w fun x w' => x = .returned (.int .i64 e) ∧ Ats w0 w' ((hp, L') :: M) K := by
  have HL := fun {w' : World} {K' : List (Nat × Obj)} (A' : Ats w0 w' ((hp, L) :: M) K') => at_look A' (List.mem_cons_self ..) N ps room D h hr hf k hk r b (fun _ => hp1) (fun z => absurd rfl z)
  have HM := fun {w' : World} {K' : List (Nat × Obj)} (A' : Ats w0 w' ((hp, L) :: M) K') => at_may A' v hmv (List.mem_cons_self ..)
  have HF := fun {w' : World} {K' : List (Nat × Obj)} (A' : Ats w0 w' ((hp, L) :: M) K') => at_dfull A' N ps room D h hr
  have HT := fun (r : Nat) (kk u : O) (hv : ps[r]? = some (kk, u)) => set_there D h r kk u v hv hmv
  have hr1 : r ≤ ps.length := by
    rcases hp1 with ⟨-, ⟨p, hp, -⟩, -⟩ | ⟨-, h0, -⟩
    · have := (List.getElem?_eq_some_iff.1 hp).1; omega
    · omega
  have hri : (r : Int) ≤ 1000 := by omega
  have hli : (ps.length : Int) ≤ 1000 := by omega
  have hN := ps.length < room → (∃ L1 L2, setH L (dicO N) (2 * (ps.length : Int) + 1) key = (L1, 0) ∧ setH L1 (dicO N) (2 * (ps.length : Int) + 2) v = (L2, 0) ∧ setH L2 (dicO N) 0 (numO ((ps.length : Int) + 1)) = (L.set N (dcell (ps ++ [(key, v)]) room), 0))
  have HN : ps.length < room → (∃ L1 L2, setH L (dicO N) (2 * (ps.length : Int) + 1) key = (L1, 0) ∧ setH L1 (dicO N) (2 * (ps.length : Int) + 2) v = (L2, 0) ∧ setH L2 (dicO N) 0 (numO ((ps.length : Int) + 1)) = (L.set N (dcell (ps ++ [(key, v)]) room), 0)) := fun hlt => by
    have hdl := dItems_length ps room h
    obtain ⟨s1, D1, m1⟩ := D.step (2 * ps.length + 1) (by simp [hdl]; omega) key hmk
    obtain ⟨s2, D2, m2⟩ := D1.step (2 * ps.length + 2) (by simp [hdl]; omega) v (by rw [m1]; exact hmv)
    obtain ⟨s3, -, -⟩ := D2.step 0 (by simp [hdl]) (numO ((ps.length : Int) + 1)) (may_num _ _ (by omega) (by omega))
    rw [show ((2 * ps.length + 1 : Nat) : Int) = 2 * (ps.length : Int) + 1 by omega] at s1
    rw [show ((2 * ps.length + 2 : Nat) : Int) = 2 * (ps.length : Int) + 2 by omega] at s2
    simp only [set_set_same, dItems_push ps room hlt key v] at s3
    exact ⟨_, _, s1, s2, by rw [set_set_same]; exact s3⟩
  clear hN hk hmv hmk hp1 D h
  obtain ⟨kk, kx, kn, kp, kl, ks⟩ := k
  obtain ⟨ck, cx, cn, cp, cl, cs⟩ := key
  obtain ⟨vk, vx, vn, vp, vl, vs⟩ := v
  have A1 := ((A.alloc (.cells #[.int .i64 10, .bool false, .int .i64 N, .int .i64 0, .int .i64 0, .string ⟨#[]⟩] 36)).alloc (.cells #[.int .i64 kk, .bool kx, .int .i64 kn, .int .i64 kp, .int .i64 kl, .string ks] 36)).alloc (.cells #[.int .i64 vk, .bool vx, .int .i64 vn, .int .i64 vp, .int .i64 vl, .string vs] 36)
  simp only [World.size_alloc] at A1
  have HC := Hid.mk' hc
  clear hc
  go_enter Try.func27, Try.ntmps27
  go_wp2_with fail
  refine (HL A1).mono ?_
  rintro x w2 ⟨rfl, A2⟩
  have R7 := cells_of (A2.box _ (List.mem_cons_self ..))
  have l7 := blk_lt (A2.box _ (List.mem_cons_self ..))
  simp only at l7
  clear HL A1
  go_wp2_with fail
  have A3 := A2.alloc (.cells (foundC ⟨ck, cx, cn, cp, cl, cs⟩ r ps.length room b) 108)
  refine (HM A3).mono ?_
  rintro x w3 ⟨rfl, A4⟩
  have R9 := cells_of (A4.box _ (List.mem_cons_self ..))
  have R7' := cells_of (A4.box _ (List.mem_cons_of_mem _ (List.mem_cons_self ..)))
  have R5 := cells_of (A4.box _ (List.mem_cons_of_mem _ (List.mem_cons_of_mem _ (List.mem_cons_of_mem _ (List.mem_cons_self ..)))))
  clear R7 A2 A3 HM
  rcases HC.out with ⟨rfl, rfl, u1, u2, hu, rfl⟩ | ⟨rfl, hlt, rfl, rfl⟩ | ⟨rfl, heq, rfl, rfl⟩
  · have S := HT r u1 u2 hu
    clear HT HN HF
    go_wp2_with fail
    refine (at_set A4 _ _ _ S).mono ?_
    rintro x w4 ⟨rfl, A5⟩
    go_wp2
    go_ret
    exact ⟨rfl, A5.loses (K1 := [_, _, _, _]) (Chg.refl _ _)⟩
  · obtain ⟨L1, L2, s1, s2, s3⟩ := HN hlt
    have hlt' : (ps.length : Int) < room := by omega
    clear HT HN HF
    go_wp2_with fail
    refine (at_set A4 _ _ _ s1).mono ?_
    rintro x w4 ⟨rfl, A5⟩
    clear R9 R7' R5 A4
    have R9 := cells_of (A5.box _ (List.mem_cons_self ..))
    have R7' := cells_of (A5.box _ (List.mem_cons_of_mem _ (List.mem_cons_self ..)))
    have R5 := cells_of (A5.box _ (List.mem_cons_of_mem _ (List.mem_cons_of_mem _ (List.mem_cons_of_mem _ (List.mem_cons_self ..)))))
    go_wp2_with fail
    refine (at_set A5 _ _ _ s2).mono ?_
    rintro x w5 ⟨rfl, A6⟩
    clear R9 R7' R5 A5
    have R9 := cells_of (A6.box _ (List.mem_cons_self ..))
    have R5 := cells_of (A6.box _ (List.mem_cons_of_mem _ (List.mem_cons_of_mem _ (List.mem_cons_of_mem _ (List.mem_cons_self ..)))))
    go_wp2_with fail
    refine (at_set A6 _ _ _ s3).mono ?_
    rintro x w6 ⟨rfl, A7⟩
    clear R9 R5 A6
    go_wp2
    go_ret
    exact ⟨rfl, A7.loses (K1 := [_, _, _, _]) (Chg.refl _ _)⟩
  · have hle : (room : Int) ≤ ps.length := by omega
    clear HT HN
    go_wp2_with fail
    refine (HF A4).mono ?_
    rintro x w4 ⟨rfl, A5⟩
    go_wp2
    go_ret
    exact ⟨rfl, A5.loses (K1 := [_, _, _, _]) (Chg.refl _ _)⟩
end Go.Proofs.Ytpgkjgceldleaaa
/- dict.Pairs, on a heap that a law made. -/
namespace Go.Proofs.Ytpgkjgceldleaaa
open Go.RowKit
/-! ### Keys -/
theorem may_str (L : List C) (N : Nat) (s : ByteArray) (ex : Bool) (hc : L[N]? = some (txt s.toList)) (hN : N ≤ 40000) (hs : s.size ≤ 40000) : mayH L ⟨8, ex, N, 0, s.size, ⟨#[]⟩⟩ = true := by
  have hl := (List.getElem?_eq_some_iff.1 hc).1
  have hz := size_toList s
  simp [mayH, held, mayO, eqO, bareO, O.nil, hc, C.kind, C.size, hz]
  omega
theorem bytes_str (L : List C) (N : Nat) (s : ByteArray) (ex : Bool) (hc : L[N]? = some (txt s.toList)) (hN : N ≤ 40000) (hs : s.size ≤ 40000) : bytesH L ⟨8, ex, N, 0, s.size, ⟨#[]⟩⟩ = (s, 0) := by
  have hm := may_str L N s ex hc hN hs
  have hz := size_toList s
  have hf : findE L ⟨8, ex, N, 0, s.size, ⟨#[]⟩⟩ = 0 := by simp [findE, hm, held]
  unfold bytesH
  rw [hf]
  simp only [ne_eq, not_true_eq_false, if_false, Int.toNat_natCast, hc, if_true, atOf, lenOf]
  rw [if_neg (by decide), if_neg (by decide), Int.toNat_zero, List.drop_zero, Int.toNat_natCast, List.take_of_length_le (by omega), ofList]
theorem key_str (L : List C) (N : Nat) (s : ByteArray) (ex : Bool) (hc : L[N]? = some (txt s.toList)) (hN : N ≤ 40000) (hs : s.size ≤ 40000) :
    keyD L ⟨8, ex, N, 0, s.size, ⟨#[]⟩⟩ = if 100 < (s.size : Int) then (O.nil, 5) else (⟨5, false, 0, 0, 0, s⟩, 0) := by
  unfold keyD
  rw [may_str L N s ex hc hN hs, bytes_str L N s ex hc hN hs]
  simp
theorem may_name (L : List C) (s : ByteArray) (ex : Bool) (hs : s.size ≤ 100) : mayH L ⟨5, ex, 0, 0, 0, s⟩ = true := by
  simp [mayH, held, mayO, eqO, bareO, O.nil]
  omega
theorem key_name (L : List C) (s : ByteArray) (ex : Bool) (hs : s.size ≤ 100) : keyD L ⟨5, ex, 0, 0, 0, s⟩ = (⟨5, false, 0, 0, 0, s⟩, 0) := by
  unfold keyD
  rw [may_name L s ex hs]
  simp [unO]
theorem key_num (L : List C) (v : Int) (h : -2147483647 ≤ v) (h' : v ≤ 2147483647) : keyD L (numO v) = (numO v, 0) := by
  unfold keyD
  rw [may_num L v h h']
  simp [unO]
theorem key_null (L : List C) : keyD L nullO = (O.nil, 6) := by simp [keyD, nullO]
theorem same_name (s t : ByteArray) : sameO ⟨5, false, 0, 0, 0, s⟩ ⟨5, false, 0, 0, 0, t⟩ = decide (s = t) := by
  unfold sameO
  have h : (sizeO ⟨5, false, 0, 0, 0, s⟩).2 = false := by unfold sizeO; split <;> simp
  rw [if_neg (by rw [h]; simp)]
  simp [eqO, unO]
theorem same_name_num (s : ByteArray) (v : Int) : sameO ⟨5, false, 0, 0, 0, s⟩ (numO v) = false := by
  unfold sameO
  have h : (sizeO ⟨5, false, 0, 0, 0, s⟩).2 = false := by unfold sizeO; split <;> simp
  rw [if_neg (by rw [h]; simp)]
  simp [eqO, unO]
theorem dict_new (L : List C) (room : Nat) (h1 : L.length < 2000) (hr : room ≤ 1000) (h2 : used L + (2 * room + 1) ≤ 40000) : dictH L (room : Int) = (L ++ [dcell [] room], dicO L.length, 0) := by
  have hc : (⟨false, true, false, ⟨3, false, 0, 0, 0, ⟨#[]⟩⟩ :: List.replicate (2 * (room : Int).toNat) nullO, []⟩ : C) = dcell [] room := by simp [dItems, pairsL]
  unfold dictH
  rw [if_neg (by omega), hc, add_fits _ _ h1 (by simp [C.size, dItems_length [] room (by simp)]; omega)]
  simp [objOf, C.kind]
end Go.Proofs.Ytpgkjgceldleaaa
/- known of tympanlaw12. -/
namespace Go.Proofs.Ytpgkjgceldleaaa
open Go.RowKit

abbrev ka : ByteArray := ⟨#[97]⟩
theorem ka_list : ka.toList = [97] := by rw [ByteArray.toList_eq]
theorem k12_1 : dictH [] 1 = ([dcell [] 1], dicO 0, 0) := dict_new [] 1 (by decide) (by decide) (by decide)
theorem k12_2 : stringH [dcell [] 1] ka = ([dcell [] 1, txt [97]], ⟨8, false, 1, 0, 1, ⟨#[]⟩⟩, 0) := by
  have hs : ka.size = 1 := rfl
  unfold stringH
  rw [hs, if_neg (by omega), ka_list, add_fits _ _ (by simp) (by simp [used, C.size, dItems, pairsL])]
  simp [objOf, C.kind, C.size]
theorem k12_D1 : DicAt [dcell [] 1, txt [97]] 0 (dcell [] 1) := ⟨rfl, rfl, rfl, rfl, by decide, by decide⟩
theorem k12_D2 : DicAt [dcell [(nameO ka, numO 5)] 1, txt [97]] 0 (dcell [(nameO ka, numO 5)] 1) := ⟨rfl, rfl, rfl, rfl, by decide, by decide⟩
theorem k12_k1 : keyD [dcell [] 1, txt [97]] ⟨8, false, 1, 0, 1, ⟨#[]⟩⟩ = (nameO ka, 0) := by
  have := key_str [dcell [] 1, txt [97]] 1 ka false (by rw [ka_list]; rfl) (by decide) (by decide)
  rw [if_neg (by decide)] at this
  exact this
theorem place_nil (k : O) : PlaceS [] k 0 false := .inr ⟨rfl, rfl, fun j p h => by simp at h⟩
theorem place_one (s : ByteArray) (v : O) : PlaceS [(nameO s, v)] (nameO s) 0 true := .inl ⟨rfl, ⟨_, rfl, by rw [same_name]; simp⟩, fun j p h => absurd h (by omega)⟩
theorem place_num (s : ByteArray) (v : O) (n : Int) : PlaceS [(nameO s, v)] (numO n) 0 false := .inr ⟨rfl, rfl, fun j p h => by
  cases j with
  | zero => simp at h; subst h; exact same_name_num s n
  | succ j => simp at h⟩

end Go.Proofs.Ytpgkjgceldleaaa
