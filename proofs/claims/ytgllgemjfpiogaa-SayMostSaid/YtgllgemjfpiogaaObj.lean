/- Objects as plain data, and what obj.bare, obj.within, obj.May compute of them. -/
import Derived.Test.YtgllgemjfpiogaaProg
import Derived.Test.YtgllgemjfpiogaaBase
namespace Go.Proofs.Ytgllgemjfpiogaa
open Go.RowKit

/-- An api.Object. -/
structure O where
  kind : Int
  exec : Bool
  n : Int
  pos : Int
  len : Int
  s : ByteArray
  deriving DecidableEq
def O.cells (o : O) : List Value := [.int .i64 o.kind, .bool o.exec, .int .i64 o.n, .int .i64 o.pos, .int .i64 o.len, .string o.s]
abbrev O.val (o : O) : Value := .agg #[.int .i64 o.kind, .bool o.exec, .int .i64 o.n, .int .i64 o.pos, .int .i64 o.len, .string o.s]
def O.nil : O := ⟨0, false, 0, 0, 0, ⟨#[]⟩⟩

def bareO (o : O) : O :=
  if o.kind = 2 ∨ o.kind = 3 ∨ o.kind = 4 ∨ o.kind = 7 ∨ o.kind = 10 ∨ o.kind = 11 then { o with exec := false, n := 0 }
  else if o.kind = 5 then { o with exec := false, s := ⟨#[]⟩ }
  else if o.kind = 8 ∨ o.kind = 9 then { o with exec := false, n := 0, pos := 0, len := 0 }
  else { o with exec := false }

theorem within_any (v lo hi : Int) (w : World) :
    Calls Try.prog 80 #[.int .i64 v, .int .i64 lo, .int .i64 hi] w fun e w' => e = .returned (.bool (decide (lo ≤ v) && decide (v ≤ hi))) ∧ w = w' := by
  by_cases h1 : lo ≤ v <;> by_cases h2 : v ≤ hi
  all_goals
    go_enter Try.func80, Try.ntmps80
    go_wp2
    go_ret
    exact ⟨by simp [h1, h2], rfl⟩

theorem bare_any (o : O) (w : World) :
    Calls Try.prog 79 #[o.val] w fun e w' => e = .returned (bareO o).val ∧ Chg NoB w w' := by
  obtain ⟨k, ex, n, a, l, s⟩ := o
  go_enter Try.func79, Try.ntmps79
  go_wp2
  all_goals
    refine bodyPost_ret (v := (bareO ⟨k, ex, n, a, l, s⟩).val) ?_ rfl ⟨rfl, ((Chg.refl _ _).alloc _).alloc _⟩
    simp_all [results, Try.results79, go_sem, bareO]

/-- Are two objects the same? (A name that the walk does not look behind.) -/
def eqO (o p : O) : Bool := decide (o = p)
theorem eqO_iff {o p : O} : eqO o p = true ↔ o = p := by simp [eqO]
theorem eqO_self (o : O) : eqO o o = true := by simp [eqO]
theorem eqO_ne {o p : O} (h : o ≠ p) : eqO o p = false := by simp [eqO, h]

def mayO (o : O) : Bool :=
  eqO (bareO o) { O.nil with kind := o.kind } &&
  if o.kind = 1 ∨ o.kind = 6 then true
  else if o.kind = 2 then decide (0 ≤ o.n) && decide (o.n ≤ 1)
  else if o.kind = 3 then decide (-2147483647 ≤ o.n) && decide (o.n ≤ 2147483647)
  else if o.kind = 4 then decide (-1073741823 ≤ o.n) && decide (o.n ≤ 1073741823)
  else if o.kind = 5 then decide ((o.s.size : Int) ≤ 100)
  else if o.kind = 7 then decide (1 ≤ o.n) && decide (o.n ≤ 200)
  else if o.kind = 8 ∨ o.kind = 9 then (decide (0 ≤ o.n) && decide (o.n ≤ 40000)) && (decide (0 ≤ o.pos) && decide (o.pos ≤ 40000)) && (decide (0 ≤ o.len) && decide (o.len ≤ 40000))
  else if o.kind = 10 then decide (0 ≤ o.n) && decide (o.n ≤ 40000)
  else if o.kind = 11 then decide (1 ≤ o.n) && decide (o.n ≤ 2147483647)
  else false

theorem O.ext_iff' (k k' : Int) (x x' : Bool) (n n' a a' l l' : Int) (s s' : ByteArray) :
    ((⟨k, x, n, a, l, s⟩ : O) = ⟨k', x', n', a', l', s'⟩) ↔ (k = k' ∧ x = x' ∧ n = n' ∧ a = a' ∧ l = l' ∧ s = s') := by
  constructor
  · intro h; cases h; exact ⟨rfl, rfl, rfl, rfl, rfl, rfl⟩
  · rintro ⟨rfl, rfl, rfl, rfl, rfl, rfl⟩; rfl

theorem bytes_toList_eq (s s' : ByteArray) : (s.toList == s'.toList) = decide (s = s') := by
  by_cases h : s = s'
  · subst h; simp
  · have : s.toList ≠ s'.toList := by
      intro e; rw [ByteArray.toList_eq, ByteArray.toList_eq] at e
      exact h (by cases s; cases s'; simp_all [Array.toList_inj])
    simp [h, this]

/-- '==' of two objects. -/
theorem run_eqO (k k' : Int) (x x' : Bool) (n n' a a' l l' : Int) (s s' : ByteArray) (w : World) :
    (Op.equalIn 10000 28 (.agg #[.int .i64 k, .bool x, .int .i64 n, .int .i64 a, .int .i64 l, .string s]) (.agg #[.int .i64 k', .bool x', .int .i64 n', .int .i64 a', .int .i64 l', .string s'])).run Try.prog w =
      .ok (eqO ⟨k, x, n, a, l, s⟩ ⟨k', x', n', a', l', s'⟩) w := by
  have e : (Op.equalIn 10000 28 (.agg #[.int .i64 k, .bool x, .int .i64 n, .int .i64 a, .int .i64 l, .string s]) (.agg #[.int .i64 k', .bool x', .int .i64 n', .int .i64 a', .int .i64 l', .string s'])).run Try.prog w =
      .ok ((k == k') && (x == x') && (n == n') && (a == a') && (l == l') && (s.toList == s'.toList)) w := by
    rw [run_equalIn_struct w 9999 28 _ _ (by kernel_rfl) (by kernel_rfl)]
    simp [go_sem, Op.eqFields]
    by_cases h1 : k = k' <;> by_cases h2 : x = x' <;> by_cases h3 : n = n' <;> by_cases h4 : a = a' <;> by_cases h5 : l = l' <;> by_cases h6 : s.toList = s'.toList <;> simp [*]
  rw [e, bytes_toList_eq]
  unfold eqO
  refine congrArg (fun b => Result.ok b w) ?_
  simp only [O.ext_iff']
  by_cases h1 : k = k' <;> by_cases h2 : x = x' <;> by_cases h3 : n = n' <;> by_cases h4 : a = a' <;> by_cases h5 : l = l' <;> by_cases h6 : s = s' <;> simp [*]

@[go_sem high] theorem run_eqlO (k k' : Int) (x x' : Bool) (n n' a a' l l' : Int) (s s' : ByteArray) (w : World) :
    (binOp .eql 28 (.agg #[.int .i64 k, .bool x, .int .i64 n, .int .i64 a, .int .i64 l, .string s]) (.agg #[.int .i64 k', .bool x', .int .i64 n', .int .i64 a', .int .i64 l', .string s'])).run Try.prog w =
      .ok (.bool (eqO ⟨k, x, n, a, l, s⟩ ⟨k', x', n', a', l', s'⟩)) w := by
  rw [run_eql_struct, run_eqO]; rfl
@[go_sem high] theorem run_neqO (k k' : Int) (x x' : Bool) (n n' a a' l l' : Int) (s s' : ByteArray) (w : World) :
    (binOp .neq 28 (.agg #[.int .i64 k, .bool x, .int .i64 n, .int .i64 a, .int .i64 l, .string s]) (.agg #[.int .i64 k', .bool x', .int .i64 n', .int .i64 a', .int .i64 l', .string s'])).run Try.prog w =
      .ok (.bool (!eqO ⟨k, x, n, a, l, s⟩ ⟨k', x', n', a', l', s'⟩)) w := by
  rw [run_neq_struct, run_eqO]; rfl

theorem bareO_eta (o : O) : bareO o = ⟨(bareO o).kind, (bareO o).exec, (bareO o).n, (bareO o).pos, (bareO o).len, (bareO o).s⟩ := rfl

end Go.Proofs.Ytgllgemjfpiogaa
