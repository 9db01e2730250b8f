/- What is saved, in memory; New, find, Len. -/
import Derived.Test.YtenlpkkeljhdeaaLpt
namespace Go.Proofs.Ytenlpkkeljhdeaa
open Go.RowKit

/-- Cell number j of the box of saves. -/
def svF (l : List (Int × Nat)) (last : Int) (j : Nat) : Value :=
  if j = 20 then .int .i64 l.length else if j = 21 then .int .i64 last else
    match l[j / 2]? with
    | none => if j % 2 = 0 then .int .i64 0 else .pointer none
    | some q => if j % 2 = 0 then .int .i64 q.1 else ptr q.2
def svCs (l : List (Int × Nat)) (last : Int) : Array Value := ((List.range 22).map (svF l last)).toArray
abbrev svBox (l : List (Int × Nat)) (last : Int) : Obj := .cells (svCs l last) 76
theorem sv_get (l : List (Int × Nat)) (last : Int) (j : Nat) (hj : j < 22) : (svCs l last)[j]? = some (svF l last j) := by
  simp [svCs, hj]
theorem sv_size (l : List (Int × Nat)) (last : Int) : (svCs l last).size = 22 := by simp [svCs]
theorem sv_open (l : List (Int × Nat)) (last : Int) : (svCs l last)[20]? = some (.int .i64 l.length) := by rw [sv_get _ _ _ (by decide)]; simp [svF]
theorem sv_last (l : List (Int × Nat)) (last : Int) : (svCs l last)[21]? = some (.int .i64 last) := by rw [sv_get _ _ _ (by decide)]; simp [svF]
theorem sv_num (l : List (Int × Nat)) (last : Int) (hl : l.length ≤ 10) {i : Nat} {q : Int × Nat} (h : l[i]? = some q) : (svCs l last)[i * 2]? = some (.int .i64 q.1) := by
  have hi : i < l.length := (List.getElem?_eq_some_iff.1 h).1
  rw [sv_get _ _ _ (by omega)]
  unfold svF
  rw [if_neg (by omega), if_neg (by omega), show i * 2 / 2 = i by omega, h]
  simp
theorem sv_ptr (l : List (Int × Nat)) (last : Int) (hl : l.length ≤ 10) {i : Nat} {q : Int × Nat} (h : l[i]? = some q) : (svCs l last)[i * 2 + 1]? = some (ptr q.2) := by
  have hi : i < l.length := (List.getElem?_eq_some_iff.1 h).1
  rw [sv_get _ _ _ (by omega)]
  unfold svF
  rw [if_neg (by omega), if_neg (by omega), show (i * 2 + 1) / 2 = i by omega, h]
  simp
/-- A box that differs in some cells. -/
theorem sv_ext (a : Array Value) (l : List (Int × Nat)) (last : Int) (hs : a.size = 22) (h : ∀ j, j < 22 → a[j]? = some (svF l last j)) : a = svCs l last := by
  apply Array.ext_getElem?
  intro j
  by_cases hj : j < 22
  · rw [h j hj, sv_get _ _ _ hj]
  · rw [Array.getElem?_eq_none (by omega), Array.getElem?_eq_none (by rw [sv_size]; omega)]
theorem sv_setLast (l : List (Int × Nat)) (last x : Int) : (svCs l last).setIfInBounds 21 (.int .i64 x) = svCs l x := by
  refine sv_ext _ _ _ (by simp [sv_size]) fun j hj => ?_
  rw [Array.getElem?_setIfInBounds, sv_size]
  by_cases e : 21 = j
  · subst e; simp [svF]
  · rw [if_neg e, sv_get _ _ _ hj]
    simp only [svF]; rw [if_neg (show ¬ j = 21 by omega), if_neg (show ¬ j = 21 by omega)]
theorem sv_push (l : List (Int × Nat)) (last : Int) (q : Int × Nat) (hl : l.length < 10) :
    (((svCs l last).setIfInBounds (l.length * 2) (.int .i64 q.1)).setIfInBounds (l.length * 2 + 1) (ptr q.2)).setIfInBounds 20 (.int .i64 (l.length + 1 : Int)) = svCs (l ++ [q]) last := by
  refine sv_ext _ _ _ (by simp [sv_size]) fun j hj => ?_
  rw [Array.getElem?_setIfInBounds, Array.getElem?_setIfInBounds, Array.getElem?_setIfInBounds]
  simp only [Array.size_setIfInBounds, sv_size]
  by_cases e : 20 = j
  · subst e; simp [svF]
  rw [if_neg e]
  by_cases e1 : l.length * 2 + 1 = j
  · rw [if_pos e1, if_pos (by omega)]
    unfold svF
    rw [if_neg (by omega), if_neg (by omega), show j / 2 = l.length by omega]
    simp; omega
  rw [if_neg e1]
  by_cases e2 : l.length * 2 = j
  · rw [if_pos e2, if_pos (by omega)]
    unfold svF
    rw [if_neg (by omega), if_neg (by omega), show j / 2 = l.length by omega]
    simp; omega
  have n20 : ¬ j = 20 := by omega
  rw [if_neg e2, sv_get _ _ _ hj]
  simp only [svF, if_neg n20]
  by_cases e3 : j = 21
  · simp only [if_pos e3]
  · simp only [if_neg e3]
    by_cases hlt : j / 2 < l.length
    · rw [List.getElem?_append_left hlt]
    · rw [List.getElem?_eq_none (by omega), List.getElem?_eq_none (by simp; omega)]

def hit (o : O) (q : Int × Nat) : Bool := eqO ⟨o.kind, false, o.n, o.pos, o.len, o.s⟩ ⟨11, false, q.1, 0, 0, ⟨#[]⟩⟩
/-- The place of o among the saves, or -1. -/
def FindS (l : List (Int × Nat)) (o : O) (r : Int) : Prop :=
  (∃ (i : Nat) (q : Int × Nat), r = i ∧ l[i]? = some q ∧ hit o q = true ∧ ∀ (j : Nat) (p : Int × Nat), j < i → l[j]? = some p → hit o p = false) ∨ (r = -1 ∧ ∀ q ∈ l, hit o q = false)

theorem snew_any (w : World) : Calls Try.prog 13 #[] w fun e w' => e = .returned (ptr w.heap.size) ∧ w.alloc (svBox [] 0) = w' := by
  go_enter Try.func13, Try.ntmps13
  go_wp2
  go_ret
  exact ⟨rfl, rfl⟩

set_option maxRecDepth 100000 in
theorem slen_any (sp : Nat) (l : List (Int × Nat)) (last : Int) (w : World) {fz : Nat × Nat} (hb : w.heap[sp]? = some (.cells (svCs l last) 76 fz)) :
    Calls Try.prog 16 #[ptr sp] w fun e w' => e = .returned (.int .i64 l.length) ∧ w = w' := by
  have R := cells_of hb
  have R0 := sv_open l last
  go_enter Try.func16, Try.ntmps16
  go_wp2
  go_ret
  exact ⟨rfl, rfl⟩

set_option maxRecDepth 100000 in
set_option maxHeartbeats 1000000 in
theorem sfind_any (sp : Nat) (l : List (Int × Nat)) (last : Int) (w : World) {fz : Nat × Nat} (hb : w.heap[sp]? = some (.cells (svCs l last) 76 fz)) (hl : l.length ≤ 10) (o : O) (r : Int) (hr : FindS l o r) :
    Calls Try.prog 41 #[ptr sp, o.val] w fun e w' => e = .returned (.int .i64 r) ∧ Chg NoB w w' := by
  obtain ⟨k, ex, n, p, le, s⟩ := o
  have lsp := blk_lt hb
  go_enter Try.func41, Try.ntmps41
  go_wp2_with fail
  have hX := (Chg.refl NoB w).alloc (.cells #[.int .i64 k, .bool false, .int .i64 n, .int .i64 p, .int .i64 le, .string s] 29)
  have hB := blk_new w (.cells #[.int .i64 k, .bool false, .int .i64 n, .int .i64 p, .int .i64 le, .string s] 29)
  have hS := hX.blk hb id
  generalize w.alloc (.cells #[.int .i64 k, .bool false, .int .i64 n, .int .i64 p, .int .i64 le, .string s] 29) = w1 at *
  have T0 := sv_open l last
  go_loopw [5] (fun c wr => ∃ j : Nat, j ≤ l.length ∧ c = .int .i64 j ∧ (∀ (i : Nat) (q : Int × Nat), i < j → l[i]? = some q → hit ⟨k, ex, n, p, le, s⟩ q = false) ∧ Chg NoB w1 wr) (fun c _ => l.length - (intOf c).toNat)
  case atStart => exact ⟨0, Nat.zero_le _, rfl, fun i q hi => absurd hi (by omega), Chg.refl _ _⟩
  case round =>
    obtain ⟨j, hj, rfl, hno, X⟩ := hrel
    have R1 := cells_of (X.blk hS id)
    have R2 := cells_of (X.blk hB id)
    by_cases hlt : j < l.length
    · obtain ⟨q, hq⟩ : ∃ q, l[j]? = some q := ⟨l[j], by simp [hlt]⟩
      have T1 := sv_num l last hl hq
      have T2 : j < 10 := by omega
      by_cases hh : hit ⟨k, ex, n, p, le, s⟩ q = true
      · have hr' : r = j := by
          rcases hr with ⟨i, q', rfl, hi, hhi, hbe⟩ | ⟨-, hal⟩
          · rcases Nat.lt_trichotomy i j with h | h | h
            · rw [hno i q' h hi] at hhi; simp at hhi
            · rw [h]
            · rw [hbe j q h hq] at hh; simp at hh
          · rw [hal q (List.mem_of_getElem? hq)] at hh; simp at hh
        have E : eqO ⟨k, false, n, p, le, s⟩ ⟨11, false, q.1, 0, 0, ⟨#[]⟩⟩ = true := hh
        subst hr'
        clear hno hr hh
        go_wp2_with fail
        go_quiet (fail)
        go_wp2
        go_ret
        exact ⟨rfl, (hX.pure X).drewN _⟩
      · have hf : hit ⟨k, ex, n, p, le, s⟩ q = false := by simpa using hh
        have E : eqO ⟨k, false, n, p, le, s⟩ ⟨11, false, q.1, 0, 0, ⟨#[]⟩⟩ = false := hf
        have HN := Hid.mk' hno
        clear hno hh
        go_wp2_with fail
        go_quiet (fail)
        go_wp2_with fail
        go_roundw
        case rel => exact ⟨j + 1, by omega, by go_num, fun i q' hi hq' => by
          rcases Nat.lt_succ_iff_lt_or_eq.1 hi with h | h
          · exact HN.out i q' h hq'
          · subst h; rw [hq] at hq'; obtain rfl := Option.some.inj hq'; exact hf, X.drewN _⟩
        case measure => simp [intOf]; omega
    · have hr' : r = -1 := by
        rcases hr with ⟨i, q', rfl, hi, hhi, -⟩ | ⟨h, -⟩
        · have := hno i q' (by have := (List.getElem?_eq_some_iff.1 hi).1; omega) hi
          rw [this] at hhi; simp at hhi
        · exact h
      subst hr'
      clear hno hr
      go_wp2_with fail
      go_ret
      exact ⟨rfl, hX.pure X⟩
end Go.Proofs.Ytenlpkkeljhdeaa
