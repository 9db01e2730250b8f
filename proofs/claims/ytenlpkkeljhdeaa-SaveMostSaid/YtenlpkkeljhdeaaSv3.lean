/- Back, on heaps and saves that a law made. -/
import Derived.Test.YtenlpkkeljhdeaaSv2
namespace Go.Proofs.Ytenlpkkeljhdeaa
open Go.RowKit

def svZ (j : Nat) : Value := if j % 2 = 0 then .int .i64 0 else .pointer none
/-- The box of saves, the places i to k cleared. -/
def svM (l : List (Int × Nat)) (i k : Nat) (last : Int) : Array Value := ((List.range 22).map fun j => if 2 * i ≤ j ∧ j < 2 * k then svZ j else svF l last j).toArray
theorem svM_get (l : List (Int × Nat)) (i k : Nat) (last : Int) (j : Nat) (hj : j < 22) : (svM l i k last)[j]? = some (if 2 * i ≤ j ∧ j < 2 * k then svZ j else svF l last j) := by
  simp [svM, hj]
theorem svM_size (l : List (Int × Nat)) (i k : Nat) (last : Int) : (svM l i k last).size = 22 := by simp [svM]
theorem svM_start (l : List (Int × Nat)) (i : Nat) (last : Int) : svM l i i last = svCs l last := by
  refine sv_ext _ _ _ (svM_size ..) fun j hj => ?_
  rw [svM_get _ _ _ _ _ hj, if_neg (by omega)]
theorem svM_open (l : List (Int × Nat)) (i k : Nat) (last : Int) (hk : k ≤ 10) : (svM l i k last)[20]? = some (.int .i64 l.length) := by
  rw [svM_get _ _ _ _ _ (by decide), if_neg (by omega)]; simp [svF]
theorem svM_step (l : List (Int × Nat)) (i k : Nat) (last : Int) (hi : i ≤ k) (hk : k < 10) : ((svM l i k last).setIfInBounds (k * 2) (.int .i64 0)).setIfInBounds (k * 2 + 1) (.pointer none) = svM l i (k + 1) last := by
  apply Array.ext_getElem?
  intro j
  rw [Array.getElem?_setIfInBounds, Array.getElem?_setIfInBounds]
  simp only [Array.size_setIfInBounds, svM_size]
  by_cases hj : j < 22
  · rw [svM_get _ _ _ _ _ hj, svM_get _ _ _ _ _ hj]
    by_cases e1 : k * 2 + 1 = j
    · rw [if_pos e1, if_pos (by omega), if_pos (by omega)]
      unfold svZ; rw [if_neg (by omega)]
    rw [if_neg e1]
    by_cases e2 : k * 2 = j
    · rw [if_pos e2, if_pos (by omega), if_pos (by omega)]
      unfold svZ; rw [if_pos (by omega)]
    rw [if_neg e2]
    by_cases e3 : 2 * i ≤ j ∧ j < 2 * k
    · rw [if_pos e3, if_pos (by omega)]
    · rw [if_neg e3, if_neg (by omega)]
  · rw [if_neg (by omega), if_neg (by omega), Array.getElem?_eq_none (by rw [svM_size]; omega), Array.getElem?_eq_none (by rw [svM_size]; omega)]
theorem svM_end (l : List (Int × Nat)) (i : Nat) (last : Int) (hi : i ≤ l.length) (hl : l.length ≤ 10) : (svM l i l.length last).setIfInBounds 20 (.int .i64 i) = svCs (l.take i) last := by
  refine sv_ext _ _ _ (by simp [svM_size]) fun j hj => ?_
  rw [Array.getElem?_setIfInBounds, svM_size]
  by_cases e : 20 = j
  · subst e; simp [svF]; omega
  have n20 : ¬ j = 20 := by omega
  rw [if_neg e, svM_get _ _ _ _ _ hj]
  by_cases e3 : j = 21
  · subst e3
    rw [if_neg (by omega)]; simp [svF]
  simp only [svF, if_neg n20, if_neg e3]
  by_cases h1 : j / 2 < i
  · rw [if_neg (by omega), List.getElem?_take_of_lt h1]
  · have e2 : (l.take i)[j / 2]? = none := List.getElem?_eq_none (by simp; omega)
    rw [e2]
    by_cases h2 : j < 2 * l.length
    · rw [if_pos (by omega)]; rfl
    · rw [if_neg (by omega), List.getElem?_eq_none (by omega)]

set_option maxRecDepth 100000 in
set_option maxHeartbeats 2000000 in
theorem at_backNone {w0 w : World} {hp sp : Nat} {M : List (Nat × List C)} {K : List (Nat × Obj)} {l : List (Int × Nat)} {last : Int} (A : Ats w0 w M K) (hs : (sp, svBox l last) ∈ K) (hl : l.length ≤ 10) (o : O) (hr : FindS l o (-1)) :
    Calls Try.prog 15 #[ptr sp, ptr hp, o.val] w fun e w' => e = .returned (.int .i64 17) ∧ Ats w0 w' M K := by
  obtain ⟨k, ex, m, p, le, s⟩ := o
  have hb := A.box _ hs
  have FK := fun w' (h : w'.heap[sp]? = some (svBox l last)) => sfind_any sp l last w' h hl ⟨k, ex, m, p, le, s⟩ (-1) hr
  have hXX := (Chg.refl NoB w).alloc (.cells #[.int .i64 k, .bool ex, .int .i64 m, .int .i64 p, .int .i64 le, .string s] 29)
  have hbs := hXX.blk hb id
  go_enter Try.func15, Try.ntmps15
  go_wp2_with fail
  refine (FK _ hbs).mono ?_
  rintro e w2 ⟨rfl, hb2⟩
  have A2 := A.pure (hXX.pure hb2)
  clear FK hbs hb2 hXX hr
  go_wp2
  go_ret
  exact ⟨rfl, A2⟩

set_option maxRecDepth 100000 in
set_option maxHeartbeats 2000000 in
theorem at_back {w0 w : World} {hp sp : Nat} {L G : List C} {M : List (Nat × List C)} {K : List (Nat × Obj)} {l : List (Int × Nat)} {last : Int} (A : Ats w0 w ((hp, L) :: M) ((sp, svBox l last) :: K)) (hl : l.length ≤ 10) (o : O) (i : Nat) (q : Int × Nat) (hr : FindS l o i) (hq : l[i]? = some q) (hG : (q.2, G) ∈ M) :
    Calls Try.prog 15 #[ptr sp, ptr hp, o.val] w fun e w' => e = .returned (.int .i64 0) ∧ Ats w0 w' ((hp, G) :: M) ((sp, svBox (l.take i) last) :: K) := by
  obtain ⟨k, ex, m, p, le, s⟩ := o
  have hb := A.box _ (List.mem_cons_self ..)
  have FK := fun w' (h : w'.heap[sp]? = some (svBox l last)) => sfind_any sp l last w' h hl ⟨k, ex, m, p, le, s⟩ i hr
  have hXX := (Chg.refl NoB w).alloc (.cells #[.int .i64 k, .bool ex, .int .i64 m, .int .i64 p, .int .i64 le, .string s] 29)
  have hbs := hXX.blk hb id
  have hi : i < l.length := (List.getElem?_eq_some_iff.1 hq).1
  simp only at hb hbs
  go_enter Try.func15, Try.ntmps15
  go_wp2_with fail
  refine (FK _ hbs).mono ?_
  rintro e w2 ⟨rfl, hb2⟩
  have A2 := A.pure (hXX.pure hb2)
  clear FK hbs hb2 hXX hr
  have R2 := cells_of (A2.box _ (List.mem_cons_self ..))
  have T1 := sv_ptr l last hl hq
  have T2 : i < 10 := by omega
  simp only at R2
  go_wp2_with fail
  refine (at_become A2 hG).mono ?_
  rintro e w3 ⟨rfl, A3⟩
  simp only [svBox, ← svM_start l i last] at A3
  clear R2 T1 A2 A hb
  go_wp2_with fail
  go_loopw [8] (fun c wr => ∃ j : Nat, i ≤ j ∧ j ≤ l.length ∧ c = .int .i64 j ∧ Ats w0 wr ((hp, G) :: M) ((sp, .cells (svM l i j last) 76) :: K)) (fun c _ => l.length - (intOf c).toNat)
  case atStart => exact ⟨i, Nat.le_refl _, by omega, rfl, A3⟩
  case round =>
    obtain ⟨j, hij, hj, rfl, A4⟩ := hrel
    have hb4 := A4.box _ (List.mem_cons_self ..)
    have R4 := cells_of hb4
    have Z4 := free_of hb4
    have T4 := svM_open l i j last (by omega)
    simp only at R4 Z4
    by_cases hlt : j < l.length
    · have T5 : j < 10 := by omega
      have T6 := svM_get l i j last (j * 2) (by omega)
      have T7 := svM_get l i j last (j * 2 + 1) (by omega)
      have A5 := (A4.put (j * 2) (.int .i64 0)).put (j * 2 + 1) (.pointer none)
      rw [svM_step l i j last hij T5] at A5
      clear A4 A3
      go_wp2_with fail
      go_roundw
      case rel => exact ⟨j + 1, by omega, by omega, by go_num, A5⟩
      case measure => simp [intOf]; omega
    · have he : j = l.length := by omega
      subst he
      have A5 := A4.put 20 (.int .i64 i)
      rw [svM_end l i last (by omega) hl] at A5
      clear A4 A3
      go_wp2_with fail
      go_ret
      exact ⟨rfl, A5⟩
end Go.Proofs.Ytenlpkkeljhdeaa
