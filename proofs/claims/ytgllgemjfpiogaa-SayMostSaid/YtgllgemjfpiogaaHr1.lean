/- Walks: heap.held, inside, and the methods of a cell. -/
import Derived.Test.YtgllgemjfpiogaaHeap
namespace Go.Proofs.Ytgllgemjfpiogaa
open Go.RowKit

theorem held_any (o : O) (w : World) :
   Calls Try.prog 63 #[o.val] w fun e w' => e = .returned (.bool (held o)) ∧ Chg NoB w w' := by
  obtain ⟨k, ex, n, a, l, s⟩ := o
  have Hm : Hid (held ⟨k, ex, n, a, l, s⟩ = (k == 9 || k == 8 || k == 10)) := rfl
  go_enter Try.func63, Try.ntmps63
  go_wp2
  all_goals
    go_ret
    refine ⟨?_, (Chg.refl _ _).alloc _⟩
    rw [Hm.out]
    simp_all

theorem kind_any (x : PC) (w : World) (h : x.ok w) :
   Calls Try.prog 64 #[x.val] w fun e w' => e = .returned (.int .i64 x.c.kind) ∧ Chg NoB w w' := by
  obtain ⟨p, sl, t, d, k, its, bs⟩ := x
  unfold PC.ok at h
  cases t <;> simp only [if_true, if_false, Bool.false_eq_true] at h
  · obtain ⟨h1, -⟩ := h
    have hl := blk_lt h1
    have R := Chg.cells (S := NoB) h1 id
    have X := Chg.refl NoB w
    cases d
    all_goals
      go_enter Try.func64, Try.ntmps64
      simp only [PC.val, PC.ptrs, if_false, Bool.false_eq_true]
      go_wp2
      go_ret
      exact ⟨rfl, X.alloc _⟩
  · go_enter Try.func64, Try.ntmps64
    simp only [PC.val, PC.ptrs, if_true]
    go_wp2
    go_ret
    exact ⟨rfl, (Chg.refl _ _).alloc _⟩

theorem size_any (x : PC) (w : World) (h : x.ok w) :
   Calls Try.prog 65 #[x.val] w fun e w' => e = .returned (.int .i64 x.c.size) ∧ Chg NoB w w' := by
  obtain ⟨p, sl, t, d, k, its, bs⟩ := x
  unfold PC.ok at h
  cases t <;> simp only [if_true, if_false, Bool.false_eq_true] at h
  all_goals
    obtain ⟨h1, h2, -⟩ := h
    obtain ⟨a, cap, rfl, hc⟩ := h2.shape
    have hl := blk_lt h1
    have R := Chg.cells (S := NoB) h1 id
    have X := Chg.refl NoB w
    go_enter Try.func65, Try.ntmps65
    simp only [PC.val, PC.ptrs, if_true, if_false, Bool.false_eq_true]
    go_wp2
    go_ret
    exact ⟨rfl, X.alloc _⟩

theorem locked_any (x : PC) (w : World) (h : x.ok w) :
   Calls Try.prog 49 #[x.val] w fun e w' => e = .returned (.bool x.c.locked) ∧ Chg NoB w w' := by
  obtain ⟨p, sl, t, d, k, its, bs⟩ := x
  unfold PC.ok at h
  cases t <;> simp only [if_true, if_false, Bool.false_eq_true] at h
  all_goals
    obtain ⟨h1, h2, -⟩ := h
    have hl := blk_lt h1
    have R := Chg.cells (S := NoB) h1 id
    have X := Chg.refl NoB w
    go_enter Try.func49, Try.ntmps49
    simp only [PC.val, PC.ptrs, if_true, if_false, Bool.false_eq_true]
    go_wp2
    go_ret
    exact ⟨rfl, X.alloc _⟩
end Go.Proofs.Ytgllgemjfpiogaa
