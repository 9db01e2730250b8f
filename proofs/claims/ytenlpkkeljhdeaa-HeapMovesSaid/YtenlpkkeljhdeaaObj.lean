/- Objects as plain data, and what obj.bare, obj.within, obj.May compute of them. -/
import Derived.Test.YtenlpkkeljhdeaaProg
import Derived.Test.YtenlpkkeljhdeaaBase
namespace Go.Proofs.Ytenlpkkeljhdeaa
open Go.RowKit

/-- An api.Object. -/
structure O where
  kind : Int
  exec : Bool
  n : Int
  pos : Int
  len : Int
  s : ByteArray
  deriving DecidableEq
def O.cells (o : O) : List Value := [.int .i64 o.kind, .bool o.exec, .int .i64 o.n, .int .i64 o.pos, .int .i64 o.len, .string o.s]
abbrev O.val (o : O) : Value := .agg #[.int .i64 o.kind, .bool o.exec, .int .i64 o.n, .int .i64 o.pos, .int .i64 o.len, .string o.s]
def O.nil : O := ⟨0, false, 0, 0, 0, ⟨#[]⟩⟩

def bareO (o : O) : O :=
  if o.kind = 2 ∨ o.kind = 3 ∨ o.kind = 4 ∨ o.kind = 7 ∨ o.kind = 10 ∨ o.kind = 11 then { o with exec := false, n := 0 }
  else if o.kind = 5 then { o with exec := false, s := ⟨#[]⟩ }
  else if o.kind = 8 ∨ o.kind = 9 then { o with exec := false, n := 0, pos := 0, len := 0 }
  else { o with exec := false }

theorem within_any (v lo hi : Int) (w : World) :
    Calls Try.prog 72 #[.int .i64 v, .int .i64 lo, .int .i64 hi] w fun e w' => e = .returned (.bool (decide (lo ≤ v) && decide (v ≤ hi))) ∧ w = w' := by
  by_cases h1 : lo ≤ v <;> by_cases h2 : v ≤ hi
  all_goals
    go_enter Try.func72, Try.ntmps72
    go_wp2
    go_ret
    exact ⟨by simp [h1, h2], rfl⟩

theorem bare_any (o : O) (w : World) :
    Calls Try.prog 71 #[o.val] w fun e w' => e = .returned (bareO o).val ∧ Chg NoB w w' := by
  obtain ⟨k, ex, n, a, l, s⟩ := o
  go_enter Try.func71, Try.ntmps71
  go_wp2
  all_goals
    refine bodyPost_ret (v := (bareO ⟨k, ex, n, a, l, s⟩).val) ?_ rfl ⟨rfl, ((Chg.refl _ _).alloc _).alloc _⟩
    simp_all [results, Try.results71, go_sem, bareO]

theorem O.ext_iff' (k k' : Int) (x x' : Bool) (n n' a a' l l' : Int) (s s' : ByteArray) :
    ((⟨k, x, n, a, l, s⟩ : O) = ⟨k', x', n', a', l', s'⟩) ↔ (k = k' ∧ x = x' ∧ n = n' ∧ a = a' ∧ l = l' ∧ s = s') := by
  constructor
  · intro h; cases h; exact ⟨rfl, rfl, rfl, rfl, rfl, rfl⟩
  · rintro ⟨rfl, rfl, rfl, rfl, rfl, rfl⟩; rfl

theorem bytes_toList_eq (s s' : ByteArray) : (s.toList == s'.toList) = decide (s = s') := by
  by_cases h : s = s'
  · subst h; simp
  · have : s.toList ≠ s'.toList := by
      intro e; rw [ByteArray.toList_eq, ByteArray.toList_eq] at e
      exact h (by cases s; cases s'; simp_all [Array.toList_inj])
    simp [h, this]

theorem bareO_eta (o : O) : bareO o = ⟨(bareO o).kind, (bareO o).exec, (bareO o).n, (bareO o).pos, (bareO o).len, (bareO o).s⟩ := rfl

end Go.Proofs.Ytenlpkkeljhdeaa
