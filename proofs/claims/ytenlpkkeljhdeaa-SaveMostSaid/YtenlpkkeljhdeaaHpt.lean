/- Walks: Part, Bytes, Lock. -/
import Derived.Test.YtenlpkkeljhdeaaHmk
namespace Go.Proofs.Ytenlpkkeljhdeaa
open Go.RowKit

theorem inside2 (a n z : Int) (w : World) (hz : 0 ≤ z) (hz' : z ≤ 4611686018427387904) :
   Calls Try.prog 46 #[.int .i64 a, .int .i64 n, .int .i64 z] w fun e w' => e = .returned (.bool (decide (0 ≤ a ∧ 0 ≤ n ∧ a ≤ z ∧ n ≤ z - a))) ∧ w = w' := by
  by_cases h1 : 0 ≤ a
  · exact inside_any a n z w hz hz' (by omega)
  · go_enter Try.func46, Try.ntmps46
    go_wp2
    go_ret
    exact ⟨by simp; omega, rfl⟩

def partH (L : List C) (o : O) (i n : Int) : O × Int :=
  if findE L o ≠ 0 then (O.nil, findE L o)
  else if o.kind = 10 then (O.nil, 6)
  else if ¬ (0 ≤ i ∧ 0 ≤ n ∧ i ≤ o.len ∧ n ≤ o.len - i) then (O.nil, 12)
  else ({ o with pos := o.pos + i, len := n }, 0)

set_option maxHeartbeats 1000000 in
theorem part_any (h : HS) (o : O) (i n : Int) (w : World) (H : HeapRep w h) :
   Calls Try.prog 21 #[ptr h.hp, o.val, .int .i64 i, .int .i64 n] w fun e w' => e = .returned (.tuple #[(partH h.l o i n).1.val, .int .i64 (partH h.l o i n).2]) ∧ Chg NoB w w' := by
  obtain ⟨hp, slv, L⟩ := h
  obtain ⟨k, ex, N, a, l, s⟩ := o
  by_cases hE : findE (HS.l ⟨hp, slv, L⟩) ⟨k, ex, N, a, l, s⟩ ≠ 0
  · have hs : partH (HS.l ⟨hp, slv, L⟩) ⟨k, ex, N, a, l, s⟩ i n = (O.nil, findE (HS.l ⟨hp, slv, L⟩) ⟨k, ex, N, a, l, s⟩) := by simp [partH, hE]
    rw [hs]
    have hb : (findE (HS.l ⟨hp, slv, L⟩) ⟨k, ex, N, a, l, s⟩ != 0) = true := by simpa using hE
    have FB := fun w' (H' : HeapRep w' ⟨hp, slv, L⟩) => find_bad ⟨hp, slv, L⟩ ⟨k, ex, N, a, l, s⟩ w' H' hE
    generalize findE (HS.l ⟨hp, slv, L⟩) ⟨k, ex, N, a, l, s⟩ = fe at *
    go_enter Try.func21, Try.ntmps21
    go_wp2_with fail
    refine (FB _ (H.pure (((Chg.refl NoB w).alloc _).alloc _))).mono ?_
    rintro e w1 ⟨rfl, hb1⟩
    have hB0 := hb1.blk (blk_alloc (blk_new w _) _) id
    have hB1 := hb1.blk (blk_new1 w _ _) id
    have H1 := (H.pure (((Chg.refl NoB w).alloc _).alloc _)).pure hb1
    have XW := (((Chg.refl NoB w).alloc _).alloc _).pure hb1
    clear hb1
    have R1 := cells_of hB1
    have Z1 := free_of hB1
    have l1 := blk_lt hB1
    clear FB
    go_wp2
    refine bodyPost_ret (v := .tuple #[O.nil.val, .int .i64 fe]) (by simp [results, Try.results21, go_sem, R1, l1, cell_set_at, O.nil]) rfl ⟨rfl, ?_⟩
    (repeat' (first | with_reducible assumption | with_reducible refine Chg.alloc ?_ _ | with_reducible refine Chg.drew ?_ | with_reducible refine Chg.drewN ?_ _ | with_reducible refine Chg.setCell ?_ (Or.inr ?_) _ | exact Nat.le_refl _ | exact Nat.le_add_right _ _ | (simp; done) | (simp; omega)))
  simp only [ne_eq, Decidable.not_not] at hE
  obtain ⟨hn, hok, hx, hc, hk, hat, hle, hsz, hh⟩ := findE_good H hE
  obtain ⟨-, hm, -⟩ := findE_zero hE
  obtain ⟨-, -, a0, a1, l0, l1⟩ := mayO_held hm hh
  simp only at a0 a1 l0 l1
  have FG := fun w' (H' : HeapRep w' ⟨hp, slv, L⟩) => find_good ⟨hp, slv, L⟩ ⟨k, ex, N, a, l, s⟩ w' H' hE hn
  have hs : partH (HS.l ⟨hp, slv, L⟩) ⟨k, ex, N, a, l, s⟩ i n = (if k = 10 then (O.nil, 6) else if ¬ (0 ≤ i ∧ 0 ≤ n ∧ i ≤ l ∧ n ≤ l - i) then (O.nil, 12) else (⟨k, ex, N, a + i, n, s⟩, 0)) := by
    simp only [partH, hE, ne_eq, not_true_eq_false, if_false]
  rw [hs]
  clear hs hE hc hok hx hm hh
  simp only at FG hn hk
  obtain ⟨u, v, huv⟩ := (L[N.toNat]).ptrs_eq
  have hval : (L[N.toNat]).val = .agg #[.pointer u, .pointer v] := by unfold PC.val; rw [huv]
  rw [hval] at FG
  clear hval huv
  by_cases hk10 : k = 10
  · subst hk10
    rw [if_pos rfl]
    generalize atOf ⟨10, ex, N, a, l, s⟩ = p at *
    generalize lenOf (L[N.toNat]).c ⟨10, ex, N, a, l, s⟩ = z at *
    clear hk hle hsz
    go_enter Try.func21, Try.ntmps21
    go_wp2_with fail
    refine (FG _ (H.pure (((Chg.refl NoB w).alloc _).alloc _))).mono ?_
    rintro e w1 ⟨rfl, hb1⟩
    have hB0 := hb1.blk (blk_alloc (blk_new w _) _) id
    have hB1 := hb1.blk (blk_new1 w _ _) id
    have H1 := (H.pure (((Chg.refl NoB w).alloc _).alloc _)).pure hb1
    have XW := (((Chg.refl NoB w).alloc _).alloc _).pure hb1
    clear hb1
    have R0 := cells_of hB0
    have R1 := cells_of hB1
    have Z1 := free_of hB1
    have l0 := blk_lt hB0
    have l1 := blk_lt hB1
    clear FG
    go_wp2
    refine bodyPost_ret (v := .tuple #[O.nil.val, .int .i64 6]) (by simp [results, Try.results21, go_sem, R1, l1, cell_set_at, O.nil]) rfl ⟨rfl, ?_⟩
    (repeat' (first | with_reducible assumption | with_reducible refine Chg.alloc ?_ _ | with_reducible refine Chg.drew ?_ | with_reducible refine Chg.drewN ?_ _ | with_reducible refine Chg.setCell ?_ (Or.inr ?_) _ | exact Nat.le_refl _ | exact Nat.le_add_right _ _ | (simp; done) | (simp; omega)))
  rw [if_neg hk10]
  have hp : atOf ⟨k, ex, N, a, l, s⟩ = a := by simp [atOf, hk10]
  have hz : lenOf (L[N.toNat]).c ⟨k, ex, N, a, l, s⟩ = l := by simp [lenOf, hk10]
  have hkb : (k == 10) = false := by simpa using hk10
  rw [hp, hz] at FG
  clear hp hz hk hle hsz hat
  by_cases hi : ¬ (0 ≤ i ∧ 0 ≤ n ∧ i ≤ l ∧ n ≤ l - i)
  · rw [if_pos hi]
    have hd : decide (0 ≤ i ∧ 0 ≤ n ∧ i ≤ l ∧ n ≤ l - i) = false := by simpa using hi
    have HD := Hid.mk' hd
    go_enter Try.func21, Try.ntmps21
    go_wp2_with fail
    refine (FG _ (H.pure (((Chg.refl NoB w).alloc _).alloc _))).mono ?_
    rintro e w1 ⟨rfl, hb1⟩
    have hB0 := hb1.blk (blk_alloc (blk_new w _) _) id
    have hB1 := hb1.blk (blk_new1 w _ _) id
    have H1 := (H.pure (((Chg.refl NoB w).alloc _).alloc _)).pure hb1
    have XW := (((Chg.refl NoB w).alloc _).alloc _).pure hb1
    clear hb1
    have R0 := cells_of hB0
    have l0' := blk_lt hB0
    have l1' := blk_lt hB1
    clear FG hd hi
    go_wp2_with fail
    refine (inside2 i n l _ l0 (by omega)).mono ?_
    rintro e w2 ⟨rfl, rfl⟩
    rw [HD.out]
    have R1 := cells_of hB1
    have Z1 := free_of hB1
    go_wp2
    refine bodyPost_ret (v := .tuple #[O.nil.val, .int .i64 12]) (by simp [results, Try.results21, go_sem, R1, l1', cell_set_at, O.nil]) rfl ⟨rfl, ?_⟩
    (repeat' (first | with_reducible assumption | with_reducible refine Chg.alloc ?_ _ | with_reducible refine Chg.drew ?_ | with_reducible refine Chg.drewN ?_ _ | with_reducible refine Chg.setCell ?_ (Or.inr ?_) _ | exact Nat.le_refl _ | exact Nat.le_add_right _ _ | (simp; done) | (simp; omega)))
  · rw [if_neg hi]
    simp only [Decidable.not_not] at hi
    have hd : decide (0 ≤ i ∧ 0 ≤ n ∧ i ≤ l ∧ n ≤ l - i) = true := by simpa using hi
    have HD := Hid.mk' hd
    have hA : IntKind.i64.wrap (a + i) = a + i := IntWalk.i64_in _ (by omega)
    go_enter Try.func21, Try.ntmps21
    go_wp2_with fail
    refine (FG _ (H.pure (((Chg.refl NoB w).alloc _).alloc _))).mono ?_
    rintro e w1 ⟨rfl, hb1⟩
    have hB0 := hb1.blk (blk_alloc (blk_new w _) _) id
    have hB1 := hb1.blk (blk_new1 w _ _) id
    have H1 := (H.pure (((Chg.refl NoB w).alloc _).alloc _)).pure hb1
    have XW := (((Chg.refl NoB w).alloc _).alloc _).pure hb1
    clear hb1
    have R0 := cells_of hB0
    have l0' := blk_lt hB0
    have l1' := blk_lt hB1
    clear FG hd hi
    go_wp2_with fail
    refine (inside2 i n l _ l0 (by omega)).mono ?_
    rintro e w2 ⟨rfl, rfl⟩
    rw [HD.out]
    have R1 := cells_of hB1
    have Z1 := free_of hB1
    have Z0 := free_of hB0
    have hB3 := blk_set (blk_set hB0 3 (.int .i64 (a + i))) 4 (.int .i64 n)
    go_wp2
    refine bodyPost_ret (v := .tuple #[.agg #[.int .i64 k, .bool ex, .int .i64 N, .int .i64 (a + i), .int .i64 n, .string s], .int .i64 0]) (by simp [results, Try.results21, go_sem, R1, l1', cell_set_at, World.cell?_setCell_far]) rfl ⟨rfl, ?_⟩
    (repeat' (first | with_reducible assumption | with_reducible refine Chg.alloc ?_ _ | with_reducible refine Chg.drew ?_ | with_reducible refine Chg.drewN ?_ _ | with_reducible refine Chg.setCell ?_ (Or.inr ?_) _ | exact Nat.le_refl _ | exact Nat.le_add_right _ _ | (simp; done) | (simp; omega)))
end Go.Proofs.Ytenlpkkeljhdeaa
