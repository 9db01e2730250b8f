/- Walk: obj.size, numbers, Same. -/
import Derived.Test.YtgllgemjfpiogaaDob
namespace Go.Proofs.Ytgllgemjfpiogaa
open Go.RowKit

theorem mayO_int (o : O) (h : mayO o = true) (hk : o.kind = 3) : -2147483647 ≤ o.n ∧ o.n ≤ 2147483647 := by
  obtain ⟨k, ex, n, p, le, s⟩ := o
  simp only at hk; subst hk
  simp [mayO] at h
  exact h.2

set_option maxRecDepth 100000 in
set_option maxHeartbeats 1000000 in
theorem osize_any (o : O) (w : World) : Calls Try.prog 66 #[o.val] w fun e w' => e = .returned (.tuple #[.int .i64 (sizeO o).1, .bool (sizeO o).2]) ∧ Chg NoB w w' := by
  have hi := mayO_int o
  have hr : sizeO o = if mayO o = false then (0, false) else if o.kind = 3 then (o.n * 65536, true) else if o.kind = 4 then (o.n, true) else (0, false) := rfl
  have HM := fun w' => may_any o w'
  obtain ⟨k, ex, n, p, le, s⟩ := o
  simp only at hi hr
  generalize mayO ⟨k, ex, n, p, le, s⟩ = b at *
  have HR := Hid.mk' hr
  clear hr
  have X1 := (Chg.refl NoB w).alloc (.cells #[.int .i64 k, .bool ex, .int .i64 n, .int .i64 p, .int .i64 le, .string s] 28)
  have hB := blk_new w (.cells #[.int .i64 k, .bool ex, .int .i64 n, .int .i64 p, .int .i64 le, .string s] 28)
  go_enter Try.func66, Try.ntmps66
  go_wp2_with fail
  refine (HM _).mono ?_
  rintro e w2 ⟨rfl, hb2⟩
  have R := cells_of (hb2.blk hB id)
  have XX := X1.pure hb2
  clear HM X1 hB hb2
  cases b with
  | false =>
    clear hi
    go_wp2
    go_ret2
    rw [HR.out]
    exact ⟨rfl, XX⟩
  | true =>
    by_cases h3 : k = 3
    · obtain ⟨hi1, hi2⟩ := hi rfl h3
      subst h3
      clear hi
      go_wp2
      go_ret2
      rw [HR.out]
      exact ⟨by simp, XX⟩
    · clear hi
      have b3 : (k == 3) = false := by simpa using h3
      by_cases h4 : k = 4
      · subst h4
        go_wp2
        go_ret2
        rw [HR.out]
        exact ⟨by simp, XX⟩
      · have b4 : (k == 4) = false := by simpa using h4
        go_wp2
        go_ret2
        rw [HR.out]
        exact ⟨by simp [h3, h4], XX⟩

set_option maxRecDepth 100000 in
set_option maxHeartbeats 1000000 in
theorem onumbers_any (a b : O) (w : World) : Calls Try.prog 39 #[a.val, b.val] w fun e w' => e = .returned (.tuple #[.int .i64 (sizeO a).1, .int .i64 (sizeO b).1, .bool ((sizeO a).2 && (sizeO b).2)]) ∧ Chg NoB w w' := by
  have HA := fun w' => osize_any a w'
  have HB := fun w' => osize_any b w'
  generalize sizeO a = sa at *
  generalize sizeO b = sb at *
  obtain ⟨x, p⟩ := sa
  obtain ⟨y, q⟩ := sb
  obtain ⟨k, ex, n, c, le, s⟩ := a
  obtain ⟨k', ex', n', c', le', s'⟩ := b
  simp only at HA HB
  have X1 := ((Chg.refl NoB w).alloc (.cells #[.int .i64 k, .bool ex, .int .i64 n, .int .i64 c, .int .i64 le, .string s] 28)).alloc (.cells #[.int .i64 k', .bool ex', .int .i64 n', .int .i64 c', .int .i64 le', .string s'] 28)
  have hB1 := blk_new1 w (.cells #[.int .i64 k, .bool ex, .int .i64 n, .int .i64 c, .int .i64 le, .string s] 28) (.cells #[.int .i64 k', .bool ex', .int .i64 n', .int .i64 c', .int .i64 le', .string s'] 28)
  go_enter Try.func39, Try.ntmps39
  go_wp2_with fail
  refine (HA _).mono ?_
  rintro e w2 ⟨rfl, hb2⟩
  have R1 := cells_of (hb2.blk hB1 id)
  have X2 := X1.pure hb2
  clear HA X1 hB1 hb2
  go_wp2_with fail
  refine (HB _).mono ?_
  rintro e w3 ⟨rfl, hb3⟩
  clear HB R1
  cases p
  all_goals
    go_wp2
    go_ret3
    exact ⟨by simp, X2.pure hb3⟩

set_option maxRecDepth 100000 in
set_option maxHeartbeats 2000000 in
theorem osame_any (a b : O) (w : World) : Calls Try.prog 14 #[a.val, b.val] w fun e w' => e = .returned (.bool (sameO a b)) ∧ Chg NoB w w' := by
  have HN := fun w' => onumbers_any a b w'
  have hr : sameO a b = if (sizeO a).2 = true ∧ (sizeO b).2 = true then decide ((sizeO a).1 = (sizeO b).1) else eqO (unO a) (unO b) := rfl
  generalize sizeO a = sa at *
  generalize sizeO b = sb at *
  obtain ⟨x, p⟩ := sa
  obtain ⟨y, q⟩ := sb
  obtain ⟨k, ex, n, c, le, s⟩ := a
  obtain ⟨k', ex', n', c', le', s'⟩ := b
  simp only [unO] at HN hr
  have HR := Hid.mk' hr
  clear hr
  have X1 := ((Chg.refl NoB w).alloc (.cells #[.int .i64 k, .bool ex, .int .i64 n, .int .i64 c, .int .i64 le, .string s] 28)).alloc (.cells #[.int .i64 k', .bool ex', .int .i64 n', .int .i64 c', .int .i64 le', .string s'] 28)
  have hB0 := blk_alloc (blk_new w (.cells #[.int .i64 k, .bool ex, .int .i64 n, .int .i64 c, .int .i64 le, .string s] 28)) (.cells #[.int .i64 k', .bool ex', .int .i64 n', .int .i64 c', .int .i64 le', .string s'] 28)
  have hB1 := blk_new1 w (.cells #[.int .i64 k, .bool ex, .int .i64 n, .int .i64 c, .int .i64 le, .string s] 28) (.cells #[.int .i64 k', .bool ex', .int .i64 n', .int .i64 c', .int .i64 le', .string s'] 28)
  go_enter Try.func14, Try.ntmps14
  go_wp2_with fail
  refine (HN _).mono ?_
  rintro e w2 ⟨rfl, hb2⟩
  have R0 := cells_of (hb2.blk hB0 id)
  have R1 := cells_of (hb2.blk hB1 id)
  have Z0 := free_of (hb2.blk hB0 id)
  have Z1 := free_of (hb2.blk hB1 id)
  have l0 := blk_lt (hb2.blk hB0 id)
  have l1 := blk_lt (hb2.blk hB1 id)
  have XX := X1.pure hb2
  clear HN X1 hB0 hB1 hb2
  by_cases hpq : p = true ∧ q = true
  · obtain ⟨rfl, rfl⟩ := hpq
    go_wp2
    go_ret
    rw [HR.out]
    exact ⟨by simp; rfl, XX⟩
  · have hb : (p && q) = false := by cases p <;> cases q <;> simp_all
    go_wp2
    go_ret
    rw [HR.out, if_neg hpq]
    refine ⟨rfl, ?_⟩
    (repeat' (first | with_reducible assumption | with_reducible refine Chg.alloc ?_ _ | with_reducible refine Chg.drew ?_ | with_reducible refine Chg.drewN ?_ _ | with_reducible refine Chg.setCell ?_ (Or.inr ?_) _ | exact Nat.le_refl _ | exact Nat.le_add_right _ _ | (simp; done) | (simp; omega)))
end Go.Proofs.Ytgllgemjfpiogaa
