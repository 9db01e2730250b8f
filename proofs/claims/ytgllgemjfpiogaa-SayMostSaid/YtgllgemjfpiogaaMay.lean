/- What obj.May computes. -/
import Derived.Test.YtgllgemjfpiogaaObj
import Derived.Lib.Hide
namespace Go.Proofs.Ytgllgemjfpiogaa
open Go.RowKit

theorem may_bad (o : O) (w : World) (h : bareO o ≠ { O.nil with kind := o.kind }) :
    Calls Try.prog 62 #[o.val] w fun e w' => e = .returned (.bool false) ∧ Chg NoB w w' := by
  obtain ⟨k, ex, n, a, l, s⟩ := o
  have hd : eqO (bareO ⟨k, ex, n, a, l, s⟩) ⟨k, false, 0, 0, 0, ⟨#[]⟩⟩ = false := by
    exact eqO_ne h
  go_enter Try.func62, Try.ntmps62
  go_wp2_with fail
  have hB := blk_new w (.cells #[.int .i64 k, .bool ex, .int .i64 n, .int .i64 a, .int .i64 l, .string s] 28)
  have XW := (Chg.refl NoB w).alloc (.cells #[.int .i64 k, .bool ex, .int .i64 n, .int .i64 a, .int .i64 l, .string s] 28)
  generalize hW : w.alloc _ = W at *
  clear hW
  have R := Chg.cells (S := NoB) hB id
  have X := Chg.refl NoB W
  go_region_held3 (fun w' => Chg NoB W w') (first | assumption | (exact Chg.drew (by assumption)) | (exact Chg.pure (by assumption) (by assumption)))
    ((go_at_call 79; refine (bare_any ⟨k, ex, n, a, l, s⟩ _).mono ?_; rintro e w4 ⟨rfl, hb4⟩; clear h; generalize bareO ⟨k, ex, n, a, l, s⟩ = q at *))
  go_wp2
  go_ret
  exact ⟨rfl, XW.trans (by assumption)⟩

theorem may_good (o : O) (w : World) (h : bareO o = { O.nil with kind := o.kind }) :
    Calls Try.prog 62 #[o.val] w fun e w' => e = .returned (.bool (mayO o)) ∧ Chg NoB w w' := by
  obtain ⟨k, ex, n, a, l, s⟩ := o
  have hm : mayO ⟨k, ex, n, a, l, s⟩ = mayO ⟨k, ex, n, a, l, s⟩ := rfl
  conv at hm => rhs; rw [mayO, h]
  simp only [eqO_self, Bool.true_and] at hm
  have Hm := Lib.hid hm
  clear hm
  have hd : eqO (bareO ⟨k, ex, n, a, l, s⟩) ⟨k, false, 0, 0, 0, ⟨#[]⟩⟩ = true := by
    exact eqO_iff.2 h
  go_enter Try.func62, Try.ntmps62
  go_wp2_with fail
  have hB := blk_new w (.cells #[.int .i64 k, .bool ex, .int .i64 n, .int .i64 a, .int .i64 l, .string s] 28)
  have XW := (Chg.refl NoB w).alloc (.cells #[.int .i64 k, .bool ex, .int .i64 n, .int .i64 a, .int .i64 l, .string s] 28)
  generalize hW : w.alloc _ = W at *
  clear hW
  have R := Chg.cells (S := NoB) hB id
  have X := Chg.refl NoB W
  go_region_held3 (fun w' => Chg NoB W w') (first | assumption | (exact Chg.drew (by assumption)) | (exact Chg.pure (by assumption) (by assumption)))
    ((go_at_call 79; refine (bare_any ⟨k, ex, n, a, l, s⟩ _).mono ?_; rintro e w4 ⟨rfl, hb4⟩; clear h; generalize bareO ⟨k, ex, n, a, l, s⟩ = q at *))
  go_wp2_with (go_at_call 80; refine (within_any _ _ _ _).mono ?_; rintro e w' ⟨rfl, rfl⟩)
  all_goals
    go_ret
    refine ⟨?_, XW.trans (by assumption)⟩
    rw [Hm.out]
    clear R X XW Hm
    clear hd
    first | (simp_all; done) | (simp_all; omega)

theorem may_any (o : O) (w : World) :
    Calls Try.prog 62 #[o.val] w fun e w' => e = .returned (.bool (mayO o)) ∧ Chg NoB w w' := by
  by_cases h : bareO o = { O.nil with kind := o.kind }
  · exact may_good o w h
  · have : mayO o = false := by unfold mayO; rw [eqO_ne h]; rfl
    rw [this]; exact may_bad o w h
end Go.Proofs.Ytgllgemjfpiogaa
