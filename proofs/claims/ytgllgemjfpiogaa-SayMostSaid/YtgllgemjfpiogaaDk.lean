/- dict.Key, open, place, on a heap that a law made. -/
import Derived.Test.YtgllgemjfpiogaaDos
namespace Go.Proofs.Ytgllgemjfpiogaa
open Go.RowKit

/-- Some boxes are written somehow, and forgotten. -/
theorem Ats.loses {w0 w w' : World} {M : List (Nat × List C)} {K K1 : List (Nat × Obj)} (A : Ats w0 w M (K1 ++ K)) (X : Chg (· ∈ K1.map Prod.fst) w w') : Ats w0 w' M K := by
  obtain ⟨h, h1, H, X0, D, F, k, n⟩ := A
  have kk : ∀ b ∈ K1.map Prod.fst, b ∉ h.flatMap HS.foot ∧ w0.heap.size ≤ b := fun b hb => by
    obtain ⟨q, hq, rfl⟩ := List.mem_map.1 hb
    exact (k q (List.mem_append_left _ hq)).2
  rw [List.map_append, List.nodup_append] at n
  exact ⟨h, h1, fun x hx => (H x hx).chg X fun c hc e => (kk c e).1 (List.mem_flatMap.2 ⟨x, hx, hc⟩), X0.trans' X (fun i hi e => by have := (kk i e).2; omega), D, F,
    fun q hq => ⟨X.blk (k q (List.mem_append_right _ hq)).1 (fun e => n.2.2 _ e _ (List.mem_map.2 ⟨q, hq, rfl⟩) rfl), (k q (List.mem_append_right _ hq)).2⟩, n.2.1⟩
theorem Chg.at {S : Nat → Prop} {a w : World} {b : Nat} (hb : S b) (h : Chg S a w) (i : Nat) (u : Value) : Chg S a (w.setCell ⟨b, i, none⟩ u) := h.setCell (p := ⟨b, i, none⟩) (.inl hb) u
theorem at_same {w0 w : World} {M : List (Nat × List C)} {K : List (Nat × Obj)} (A : Ats w0 w M K) (a b : O) :
    Calls Try.prog 14 #[a.val, b.val] w fun r w' => r = .returned (.bool (sameO a b)) ∧ Ats w0 w' M K :=
  (osame_any a b w).mono fun r w' ⟨h1, h2⟩ => ⟨h1, A.pure h2⟩

set_option maxRecDepth 100000 in
set_option maxHeartbeats 4000000 in
theorem at_dkey {w0 w : World} {hp : Nat} {L : List C} {M : List (Nat × List C)} {K : List (Nat × Obj)} (A : Ats w0 w M K) (o : O) {key : O} {e : Int} (hr : keyD L o = (key, e)) (hm : (hp, L) ∈ M) :
    Calls Try.prog 12 #[ptr hp, o.val] w fun r w' => r = .returned (.tuple #[key.val, .int .i64 e]) ∧ Ats w0 w' M K := by
  obtain ⟨bs, hbs⟩ : ∃ b, bytesH L o = b := ⟨_, rfl⟩
  obtain ⟨by', be⟩ := bs
  have HMay := fun {w' : World} {K' : List (Nat × Obj)} (A' : Ats w0 w' M K') => at_may A' o (b := mayH L o) rfl hm
  have HByt := fun {w' : World} {K' : List (Nat × Obj)} (A' : Ats w0 w' M K') => at_bytes A' o hbs hm
  unfold keyD at hr
  rw [hbs] at hr
  obtain ⟨k, ex, n, p, le, s⟩ := o
  simp only [unO] at hr
  have A1 := (A.alloc (.cells #[.int .i64 k, .bool ex, .int .i64 n, .int .i64 p, .int .i64 le, .string s] 28)).alloc (.cells #[.int .i64 0, .bool false, .int .i64 0, .int .i64 0, .int .i64 0, .string ⟨#[]⟩] 28)
  simp only [World.size_alloc] at A1
  by_cases h1 : k = 1
  · rw [if_pos h1] at hr
    obtain ⟨rfl, rfl⟩ := Prod.mk.injEq .. ▸ hr
    subst h1
    go_enter Try.func12, Try.ntmps12
    go_wp2
    refine bodyPost_ret (v := .tuple #[O.nil.val, .int .i64 6]) (by simp [results, Try.results12, go_sem, O.nil]) rfl ⟨rfl, A.pure ?_⟩
    (repeat' (first | with_reducible assumption | with_reducible refine Chg.alloc ?_ _ | with_reducible refine Chg.drew ?_ | with_reducible refine Chg.drewN ?_ _ | with_reducible refine Chg.setCell ?_ (Or.inr ?_) _ | exact Nat.le_refl _ | exact Nat.le_add_right _ _ | (simp; done) | (simp; omega)))
    exact Chg.refl _ _
  rw [if_neg h1] at hr
  have b1 : (k == 1) = false := by simpa using h1
  by_cases h2 : mayH L ⟨k, ex, n, p, le, s⟩ = false
  · rw [if_pos h2] at hr
    obtain ⟨rfl, rfl⟩ := Prod.mk.injEq .. ▸ hr
    clear HByt
    go_enter Try.func12, Try.ntmps12
    go_wp2_with fail
    refine (HMay A1).mono ?_
    rintro e w2 ⟨rfl, A2⟩
    rw [h2]
    have R3 := cells_of (A2.box _ (List.mem_cons_of_mem _ (List.mem_cons_self ..)))
    have R4 := cells_of (A2.box _ (List.mem_cons_self ..))
    have Z4 := free_of (A2.box _ (List.mem_cons_self ..))
    have l4 := blk_lt (A2.box _ (List.mem_cons_self ..))
    simp only at l4
    clear HMay A1
    go_wp2
    refine bodyPost_ret (v := .tuple #[O.nil.val, .int .i64 1]) (by simp [results, Try.results12, go_sem, R4, l4, cell_set_at, O.nil]) rfl ⟨rfl, A2.loses (K1 := [_, _]) ?_⟩
    (repeat' (first | with_reducible exact Chg.refl _ _ | with_reducible refine Chg.drewN ?_ _ | with_reducible refine Chg.drew ?_ | with_reducible refine Chg.alloc ?_ _ | with_reducible refine Chg.at (by simp) ?_ _ _))
  rw [if_neg h2] at hr
  have h3 : mayH L ⟨k, ex, n, p, le, s⟩ = true := by simpa using h2
  rw [h3] at HMay
  by_cases h8 : k = 8
  · rw [if_pos h8] at hr
    subst h8
    by_cases hl : 100 < (by'.size : Int)
    · rw [if_pos hl] at hr
      obtain ⟨rfl, rfl⟩ := Prod.mk.injEq .. ▸ hr
      go_enter Try.func12, Try.ntmps12
      go_wp2_with fail
      refine (HMay A1).mono ?_
      rintro e w2 ⟨rfl, A2⟩
      have R3 := cells_of (A2.box _ (List.mem_cons_of_mem _ (List.mem_cons_self ..)))
      go_wp2_with fail
      refine (HByt A2).mono ?_
      rintro e w3 ⟨rfl, A3⟩
      have R4 := cells_of (A3.box _ (List.mem_cons_self ..))
      have Z4 := free_of (A3.box _ (List.mem_cons_self ..))
      have l4 := blk_lt (A3.box _ (List.mem_cons_self ..))
      simp only at l4
      clear HMay HByt A1 A2 R3
      go_wp2
      refine bodyPost_ret (v := .tuple #[O.nil.val, .int .i64 5]) (by simp [results, Try.results12, go_sem, R4, l4, cell_set_at, O.nil]) rfl ⟨rfl, A3.loses (K1 := [_, _]) ?_⟩
      (repeat' (first | with_reducible exact Chg.refl _ _ | with_reducible refine Chg.drewN ?_ _ | with_reducible refine Chg.drew ?_ | with_reducible refine Chg.alloc ?_ _ | with_reducible refine Chg.at (by simp) ?_ _ _))
    · rw [if_neg hl] at hr
      obtain ⟨rfl, rfl⟩ := Prod.mk.injEq .. ▸ hr
      go_enter Try.func12, Try.ntmps12
      go_wp2_with fail
      refine (HMay A1).mono ?_
      rintro e w2 ⟨rfl, A2⟩
      have R3 := cells_of (A2.box _ (List.mem_cons_of_mem _ (List.mem_cons_self ..)))
      go_wp2_with fail
      refine (HByt A2).mono ?_
      rintro e w3 ⟨rfl, A3⟩
      have R4 := cells_of (A3.box _ (List.mem_cons_self ..))
      have Z4 := free_of (A3.box _ (List.mem_cons_self ..))
      have l4 := blk_lt (A3.box _ (List.mem_cons_self ..))
      simp only at l4
      clear HMay HByt A1 A2 R3
      go_wp2
      refine bodyPost_ret (v := .tuple #[(⟨5, false, 0, 0, 0, by'⟩ : O).val, .int .i64 0]) (by simp [results, Try.results12, go_sem, R4, l4, cell_set_at]) rfl ⟨rfl, A3.loses (K1 := [_, _]) ?_⟩
      (repeat' (first | with_reducible exact Chg.refl _ _ | with_reducible refine Chg.drewN ?_ _ | with_reducible refine Chg.drew ?_ | with_reducible refine Chg.alloc ?_ _ | with_reducible refine Chg.at (by simp) ?_ _ _))
  · rw [if_neg h8] at hr
    obtain ⟨rfl, rfl⟩ := Prod.mk.injEq .. ▸ hr
    have b8 : (k == 8) = false := by simpa using h8
    clear HByt
    go_enter Try.func12, Try.ntmps12
    go_wp2_with fail
    refine (HMay A1).mono ?_
    rintro e w2 ⟨rfl, A2⟩
    have R3 := cells_of (A2.box _ (List.mem_cons_of_mem _ (List.mem_cons_self ..)))
    have Z3 := free_of (A2.box _ (List.mem_cons_of_mem _ (List.mem_cons_self ..)))
    have R4 := cells_of (A2.box _ (List.mem_cons_self ..))
    have Z4 := free_of (A2.box _ (List.mem_cons_self ..))
    have l3 := blk_lt (A2.box _ (List.mem_cons_of_mem _ (List.mem_cons_self ..)))
    have l4 := blk_lt (A2.box _ (List.mem_cons_self ..))
    simp only at l3 l4
    clear HMay A1
    go_wp2
    refine bodyPost_ret (v := .tuple #[(⟨k, false, n, p, le, s⟩ : O).val, .int .i64 0]) (by simp [results, Try.results12, go_sem, R3, R4, l3, l4, cell_set_at]) rfl ⟨rfl, A2.loses (K1 := [_, _]) ?_⟩
    (repeat' (first | with_reducible exact Chg.refl _ _ | with_reducible refine Chg.drewN ?_ _ | with_reducible refine Chg.drew ?_ | with_reducible refine Chg.alloc ?_ _ | with_reducible refine Chg.at (by simp) ?_ _ _))

set_option maxRecDepth 100000 in
set_option maxHeartbeats 4000000 in
theorem at_dopen {w0 w : World} {hp : Nat} {L : List C} {M : List (Nat × List C)} {K : List (Nat × Obj)} (A : Ats w0 w M K) (hm : (hp, L) ∈ M) (N : Nat) (ps : List (O × O)) (room : Nat) (D : DicAt L N (dcell ps room)) (h : ps.length ≤ room) (hr : room ≤ 1000) :
    Calls Try.prog 44 #[ptr hp, (dicO N).val] w fun r w' => r = .returned (.tuple #[.int .i64 ps.length, .int .i64 room, .int .i64 0]) ∧ Ats w0 w' M K := by
  have e0 : (dcell ps room).items[(0 : Int).toNat]? = some (numO ps.length) := by simp [dItems]
  have S1 := D.sizeOf
  have S2 := D.get 0 (by omega) _ e0
  have e1 : ((dItems ps room).length : Int) = 2 * room + 1 := by rw [dItems_length ps room h]; omega
  simp only at S1
  rw [e1] at S1
  have e2 : IntKind.i64.wrap (2 * (room : Int) + 1 - 1) = 2 * room := by rw [IntWalk.i64_in _ (by omega)]; omega
  have e3 : wrap64 (2 * (room : Int) + 1 - 1) = 2 * room := by rw [IntWalk.wrap64_in _ (by omega)]; omega
  have hN := D.place
  have A1 := A.alloc (.cells #[.int .i64 10, .bool false, .int .i64 N, .int .i64 0, .int .i64 0, .string ⟨#[]⟩] 28)
  have M1 := D.may
  go_enter Try.func44, Try.ntmps44
  go_wp2_with fail
  refine (at_may A1 _ M1 hm).mono ?_
  rintro e w2 ⟨rfl, A2⟩
  have R2 := cells_of (A2.box _ (List.mem_cons_self ..))
  go_wp2_with fail
  refine (at_size A2 _ S1 hm).mono ?_
  rintro e w3 ⟨rfl, A3⟩
  have R3 := cells_of (A3.box _ (List.mem_cons_self ..))
  clear R2
  go_wp2_with fail
  refine (at_get A3 _ _ S2 hm).mono ?_
  rintro e w4 ⟨rfl, A4⟩
  clear R3 A1 A2 A3 S1 S2 M1
  go_wp2
  all_goals
    go_ret3
    refine ⟨?_, (A4.pure ((Chg.refl NoB w4).alloc _)).keep (List.sublist_cons_self _ _)⟩
    first
      | (simp; done)
      | (simp; omega)
end Go.Proofs.Ytgllgemjfpiogaa
