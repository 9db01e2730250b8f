/- Base, Obj, May, Heap, Hup, Str, Hnul, Hr1, Hr2, Hr3, Hg -/
import Derived.WalkKit
import Derived.WalkSpells
import Derived.WalkLawsBesides
import Derived.Deep.RegionHeld3
import Derived.BigQuiet
import Derived.Deep.QuietTactic
import Derived.Test.YtpgkjgceldleaaaProg
import Derived.Lib.Hide
/- Plain facts about worlds that change at some blocks only: no function of the program in sight. -/
namespace Go.Proofs.Ytpgkjgceldleaaa
open Go.RowKit

/-- From w to w' only blocks in S, and new ones, may have turned. -/
structure Chg (S : Nat → Prop) (w w' : World) : Prop where
  os : w'.os = w.os
  tape : w'.tape = w.tape
  output : w'.output = w.output
  size : w.heap.size ≤ w'.heap.size
  block : ∀ k, k < w.heap.size → ¬ S k → w'.heap[k]? = w.heap[k]?

abbrev NoB : Nat → Prop := fun _ => False

theorem Chg.refl (S : Nat → Prop) (w : World) : Chg S w w := ⟨rfl, rfl, rfl, Nat.le_refl _, fun _ _ _ => rfl⟩
theorem Chg.trans' {S S' : Nat → Prop} {a b c : World} (h : Chg S a b) (k : Chg S' b c) (hS : ∀ i, i < a.heap.size → S' i → S i) : Chg S a c :=
  ⟨k.os.trans h.os, k.tape.trans h.tape, k.output.trans h.output, Nat.le_trans h.size k.size,
    fun i hi hn => (k.block i (Nat.lt_of_lt_of_le hi h.size) (fun e => hn (hS i hi e))).trans (h.block i hi hn)⟩
theorem Chg.trans {S : Nat → Prop} {a b c : World} (h : Chg S a b) (k : Chg S b c) : Chg S a c := h.trans' k fun _ _ e => e
theorem Chg.pure {S : Nat → Prop} {a b c : World} (h : Chg S a b) (k : Chg NoB b c) : Chg S a c := h.trans' k fun _ _ e => e.elim
theorem Chg.mono {S S' : Nat → Prop} {a b : World} (h : Chg S a b) (hS : ∀ i, i < a.heap.size → S i → S' i) : Chg S' a b :=
  ⟨h.os, h.tape, h.output, h.size, fun i hi hn => h.block i hi fun e => hn (hS i hi e)⟩
theorem Chg.of_below {w w' : World} (h : Below w.heap.size w w') : Chg NoB w w' := ⟨h.os, h.tape, h.output, h.size, fun i hi _ => h.block i hi⟩
theorem Chg.below {w w' : World} (h : Chg NoB w w') : Below w.heap.size w w' := ⟨h.os, h.tape, h.output, h.size, fun i hi => h.block i hi id⟩
theorem Chg.drew {S : Nat → Prop} {a w : World} (h : Chg S a w) : Chg S a w.drew := ⟨h.os, h.tape, h.output, h.size, h.block⟩
theorem Chg.drewN {S : Nat → Prop} {a w : World} (h : Chg S a w) (n : Nat) : Chg S a (w.drewN n) := ⟨h.os, h.tape, h.output, h.size, h.block⟩
theorem Chg.alloc {S : Nat → Prop} {a w : World} (h : Chg S a w) (o : Obj) : Chg S a (w.alloc o) :=
  h.trans ⟨rfl, rfl, rfl, by simp, fun k hk _ => Below.heap_alloc _ _ _ hk⟩
theorem Chg.setCell {S : Nat → Prop} {a w : World} (h : Chg S a w) {p : Addr} (hp : S p.block ∨ a.heap.size ≤ p.block) (u : Value) : Chg S a (w.setCell p u) :=
  ⟨h.os, h.tape, h.output, by simp only [World.size_setCell]; exact h.size,
    fun k hk hn => by rw [Below.heap_setCell _ _ _ _ (by rintro rfl; rcases hp with hp | hp; exact hn hp; omega)]; exact h.block k hk hn⟩
theorem Chg.grown {S : Nat → Prop} {a w w' : World} {row : Option Nat} (h : Chg S a w) (hg : w.grownBy w' row) (hr : ∀ k, row = some k → S k ∨ a.heap.size ≤ k) : Chg S a w' :=
  ⟨hg.os.trans h.os, hg.tape.trans h.tape, hg.output.trans h.output, Nat.le_trans h.size hg.size,
    fun k hk hn => (hg.block k (Nat.lt_of_lt_of_le hk h.size) (fun e => by rcases hr k e.symm with x | x; exact hn x; omega)).trans (h.block k hk hn)⟩
/-- A block that S does not name stays, whatever it is. -/
theorem Chg.blk {S : Nat → Prop} {w w' : World} (h : Chg S w w') {b : Nat} {x : Obj} (hb : w.heap[b]? = some x) (hS : ¬ S b) : w'.heap[b]? = some x := by
  rw [h.block b (Array.getElem?_eq_some_iff.1 hb).1 hS]; exact hb
theorem blk_lt {w : World} {b : Nat} {x : Obj} (hb : w.heap[b]? = some x) : b < w.heap.size := (Array.getElem?_eq_some_iff.1 hb).1
theorem blk_alloc {w : World} {b : Nat} {x : Obj} (hb : w.heap[b]? = some x) (o : Obj) : (w.alloc o).heap[b]? = some x := by
  rw [Below.heap_alloc _ _ _ (blk_lt hb)]; exact hb
theorem blk_new (w : World) (o : Obj) : (w.alloc o).heap[w.heap.size]? = some o := heap_alloc_new w o
theorem blk_new1 (w : World) (o o' : Obj) : ((w.alloc o).alloc o').heap[w.heap.size + 1]? = some o' := by
  have := heap_alloc_new (w.alloc o) o'; simpa using this
theorem blk_new2 (w : World) (o o' o'' : Obj) : (((w.alloc o).alloc o').alloc o'').heap[w.heap.size + 2]? = some o'' := by
  have := heap_alloc_new ((w.alloc o).alloc o') o''; simpa using this

theorem blk_new3 (w : World) (o o' o'' o3 : Obj) : ((((w.alloc o).alloc o').alloc o'').alloc o3).heap[w.heap.size + 3]? = some o3 := by
  have := heap_alloc_new (((w.alloc o).alloc o').alloc o'') o3; simpa using this

/-- The walk's rule for a block's cells, at every world to come. -/
theorem Chg.cells {S : Nat → Prop} {w : World} {b : Nat} {cs : Array Value} {T : TypeId} {fz : Nat × Nat} (hb : w.heap[b]? = some (.cells cs T fz)) (hS : ¬ S b) :
    ∀ W, Chg S w W → ∀ i, W.cell? ⟨b, i, none⟩ = cs[i]? := fun W h i => by
  have := h.blk hb hS
  simp [World.cell?, this]
theorem Chg.free {S : Nat → Prop} {w : World} {b : Nat} {cs : Array Value} {T : TypeId} (hb : w.heap[b]? = some (.cells cs T (0, 0))) (hS : ¬ S b) :
    ∀ W, Chg S w W → ∀ i, W.frozen? ⟨b, i, none⟩ = false := fun W h i => by
  have := h.blk hb hS
  simp [World.frozen?, this]
theorem cells_of {w : World} {b : Nat} {cs : Array Value} {T : TypeId} {fz : Nat × Nat} (hb : w.heap[b]? = some (.cells cs T fz)) : ∀ i, w.cell? ⟨b, i, none⟩ = cs[i]? := fun i => by
  simp [World.cell?, hb]
theorem free_of {w : World} {b : Nat} {cs : Array Value} {T : TypeId} (hb : w.heap[b]? = some (.cells cs T (0, 0))) : ∀ i, w.frozen? ⟨b, i, none⟩ = false := fun i => by
  simp [World.frozen?, hb]

theorem blk_set {w : World} {b : Nat} {cs : Array Value} {T : TypeId} {fz : Nat × Nat} (hb : w.heap[b]? = some (.cells cs T fz)) (i : Nat) (v : Value) :
    (w.setCell ⟨b, i, none⟩ v).heap[b]? = some (.cells (cs.setIfInBounds i v) T fz) := by
  simp [World.setCell, Array.getElem?_modify, hb]
theorem cell_set_at (w : World) (a : Addr) (v : Value) (h : (w.cell? a).isSome = true) : (w.setCell a v).cell? a = some v := by
  obtain ⟨u, hu⟩ := Option.isSome_iff_exists.1 h
  exact World.cell?_setCell_same w a v hu
theorem blk_drew {w : World} {b : Nat} {x : Obj} (hb : w.heap[b]? = some x) : w.drew.heap[b]? = some x := hb
theorem blk_set_other {w : World} {b : Nat} {x : Obj} (hb : w.heap[b]? = some x) {p : Addr} (h : b ≠ p.block) (v : Value) : (w.setCell p v).heap[b]? = some x := by
  rw [Below.heap_setCell _ _ _ _ h]; exact hb

attribute [go_sem] Chg.alloc Chg.drew Chg.drewN

end Go.Proofs.Ytpgkjgceldleaaa
/- Objects as plain data, and what obj.bare, obj.within, obj.May compute of them. -/
namespace Go.Proofs.Ytpgkjgceldleaaa
open Go.RowKit

/-- An api.Object. -/
structure O where
  kind : Int
  exec : Bool
  n : Int
  pos : Int
  len : Int
  s : ByteArray
  deriving DecidableEq
def O.cells (o : O) : List Value := [.int .i64 o.kind, .bool o.exec, .int .i64 o.n, .int .i64 o.pos, .int .i64 o.len, .string o.s]
abbrev O.val (o : O) : Value := .agg #[.int .i64 o.kind, .bool o.exec, .int .i64 o.n, .int .i64 o.pos, .int .i64 o.len, .string o.s]
def O.nil : O := ⟨0, false, 0, 0, 0, ⟨#[]⟩⟩

def bareO (o : O) : O :=
  if o.kind = 2 ∨ o.kind = 3 ∨ o.kind = 4 ∨ o.kind = 7 ∨ o.kind = 10 ∨ o.kind = 11 then { o with exec := false, n := 0 }
  else if o.kind = 5 then { o with exec := false, s := ⟨#[]⟩ }
  else if o.kind = 8 ∨ o.kind = 9 then { o with exec := false, n := 0, pos := 0, len := 0 }
  else { o with exec := false }

theorem within_any (v lo hi : Int) (w : World) :
    Calls Try.prog 83 #[.int .i64 v, .int .i64 lo, .int .i64 hi] w fun e w' => e = .returned (.bool (decide (lo ≤ v) && decide (v ≤ hi))) ∧ w = w' := by
  by_cases h1 : lo ≤ v <;> by_cases h2 : v ≤ hi
  all_goals
    go_enter Try.func83, Try.ntmps83
    go_wp2
    go_ret
    exact ⟨by simp [h1, h2], rfl⟩

theorem bare_any (o : O) (w : World) :
    Calls Try.prog 82 #[o.val] w fun e w' => e = .returned (bareO o).val ∧ Chg NoB w w' := by
  obtain ⟨k, ex, n, a, l, s⟩ := o
  go_enter Try.func82, Try.ntmps82
  go_wp2
  all_goals
    refine bodyPost_ret (v := (bareO ⟨k, ex, n, a, l, s⟩).val) ?_ rfl ⟨rfl, ((Chg.refl _ _).alloc _).alloc _⟩
    simp_all [results, Try.results82, go_sem, bareO]

/-- Are two objects the same? (A name that the walk does not look behind.) -/
def eqO (o p : O) : Bool := decide (o = p)
theorem eqO_iff {o p : O} : eqO o p = true ↔ o = p := by simp [eqO]
theorem eqO_self (o : O) : eqO o o = true := by simp [eqO]
theorem eqO_ne {o p : O} (h : o ≠ p) : eqO o p = false := by simp [eqO, h]

def mayO (o : O) : Bool :=
  eqO (bareO o) { O.nil with kind := o.kind } &&
  if o.kind = 1 ∨ o.kind = 6 then true
  else if o.kind = 2 then decide (0 ≤ o.n) && decide (o.n ≤ 1)
  else if o.kind = 3 then decide (-2147483647 ≤ o.n) && decide (o.n ≤ 2147483647)
  else if o.kind = 4 then decide (-1073741823 ≤ o.n) && decide (o.n ≤ 1073741823)
  else if o.kind = 5 then decide ((o.s.size : Int) ≤ 100)
  else if o.kind = 7 then decide (1 ≤ o.n) && decide (o.n ≤ 200)
  else if o.kind = 8 ∨ o.kind = 9 then (decide (0 ≤ o.n) && decide (o.n ≤ 40000)) && (decide (0 ≤ o.pos) && decide (o.pos ≤ 40000)) && (decide (0 ≤ o.len) && decide (o.len ≤ 40000))
  else if o.kind = 10 then decide (0 ≤ o.n) && decide (o.n ≤ 40000)
  else if o.kind = 11 then decide (1 ≤ o.n) && decide (o.n ≤ 2147483647)
  else false

theorem O.ext_iff' (k k' : Int) (x x' : Bool) (n n' a a' l l' : Int) (s s' : ByteArray) :
    ((⟨k, x, n, a, l, s⟩ : O) = ⟨k', x', n', a', l', s'⟩) ↔ (k = k' ∧ x = x' ∧ n = n' ∧ a = a' ∧ l = l' ∧ s = s') := by
  constructor
  · intro h; cases h; exact ⟨rfl, rfl, rfl, rfl, rfl, rfl⟩
  · rintro ⟨rfl, rfl, rfl, rfl, rfl, rfl⟩; rfl

theorem bytes_toList_eq (s s' : ByteArray) : (s.toList == s'.toList) = decide (s = s') := by
  by_cases h : s = s'
  · subst h; simp
  · have : s.toList ≠ s'.toList := by
      intro e; rw [ByteArray.toList_eq, ByteArray.toList_eq] at e
      exact h (by cases s; cases s'; simp_all [Array.toList_inj])
    simp [h, this]

/-- '==' of two objects. -/
theorem run_eqO (k k' : Int) (x x' : Bool) (n n' a a' l l' : Int) (s s' : ByteArray) (w : World) :
    (Op.equalIn 10000 36 (.agg #[.int .i64 k, .bool x, .int .i64 n, .int .i64 a, .int .i64 l, .string s]) (.agg #[.int .i64 k', .bool x', .int .i64 n', .int .i64 a', .int .i64 l', .string s'])).run Try.prog w =
      .ok (eqO ⟨k, x, n, a, l, s⟩ ⟨k', x', n', a', l', s'⟩) w := by
  have e : (Op.equalIn 10000 36 (.agg #[.int .i64 k, .bool x, .int .i64 n, .int .i64 a, .int .i64 l, .string s]) (.agg #[.int .i64 k', .bool x', .int .i64 n', .int .i64 a', .int .i64 l', .string s'])).run Try.prog w =
      .ok ((k == k') && (x == x') && (n == n') && (a == a') && (l == l') && (s.toList == s'.toList)) w := by
    rw [run_equalIn_struct w 9999 36 _ _ (by kernel_rfl) (by kernel_rfl)]
    simp [go_sem, Op.eqFields]
    by_cases h1 : k = k' <;> by_cases h2 : x = x' <;> by_cases h3 : n = n' <;> by_cases h4 : a = a' <;> by_cases h5 : l = l' <;> by_cases h6 : s.toList = s'.toList <;> simp [*]
  rw [e, bytes_toList_eq]
  unfold eqO
  refine congrArg (fun b => Result.ok b w) ?_
  simp only [O.ext_iff']
  by_cases h1 : k = k' <;> by_cases h2 : x = x' <;> by_cases h3 : n = n' <;> by_cases h4 : a = a' <;> by_cases h5 : l = l' <;> by_cases h6 : s = s' <;> simp [*]

@[go_sem high] theorem run_eqlO (k k' : Int) (x x' : Bool) (n n' a a' l l' : Int) (s s' : ByteArray) (w : World) :
    (binOp .eql 36 (.agg #[.int .i64 k, .bool x, .int .i64 n, .int .i64 a, .int .i64 l, .string s]) (.agg #[.int .i64 k', .bool x', .int .i64 n', .int .i64 a', .int .i64 l', .string s'])).run Try.prog w =
      .ok (.bool (eqO ⟨k, x, n, a, l, s⟩ ⟨k', x', n', a', l', s'⟩)) w := by
  rw [run_eql_struct, run_eqO]; rfl
@[go_sem high] theorem run_neqO (k k' : Int) (x x' : Bool) (n n' a a' l l' : Int) (s s' : ByteArray) (w : World) :
    (binOp .neq 36 (.agg #[.int .i64 k, .bool x, .int .i64 n, .int .i64 a, .int .i64 l, .string s]) (.agg #[.int .i64 k', .bool x', .int .i64 n', .int .i64 a', .int .i64 l', .string s'])).run Try.prog w =
      .ok (.bool (!eqO ⟨k, x, n, a, l, s⟩ ⟨k', x', n', a', l', s'⟩)) w := by
  rw [run_neq_struct, run_eqO]; rfl

theorem bareO_eta (o : O) : bareO o = ⟨(bareO o).kind, (bareO o).exec, (bareO o).n, (bareO o).pos, (bareO o).len, (bareO o).s⟩ := rfl

end Go.Proofs.Ytpgkjgceldleaaa
/- What obj.May computes. -/
namespace Go.Proofs.Ytpgkjgceldleaaa
open Go.RowKit

theorem may_bad (o : O) (w : World) (h : bareO o ≠ { O.nil with kind := o.kind }) :
    Calls Try.prog 71 #[o.val] w fun e w' => e = .returned (.bool false) ∧ Chg NoB w w' := by
  obtain ⟨k, ex, n, a, l, s⟩ := o
  have hd : eqO (bareO ⟨k, ex, n, a, l, s⟩) ⟨k, false, 0, 0, 0, ⟨#[]⟩⟩ = false := by
    exact eqO_ne h
  go_enter Try.func71, Try.ntmps71
  go_wp2_with fail
  have hB := blk_new w (.cells #[.int .i64 k, .bool ex, .int .i64 n, .int .i64 a, .int .i64 l, .string s] 36)
  have XW := (Chg.refl NoB w).alloc (.cells #[.int .i64 k, .bool ex, .int .i64 n, .int .i64 a, .int .i64 l, .string s] 36)
  generalize hW : w.alloc _ = W at *
  clear hW
  have R := Chg.cells (S := NoB) hB id
  have X := Chg.refl NoB W
  go_region_held3 (fun w' => Chg NoB W w') (first | assumption | (exact Chg.drew (by assumption)) | (exact Chg.pure (by assumption) (by assumption)))
    ((go_at_call 82; refine (bare_any ⟨k, ex, n, a, l, s⟩ _).mono ?_; rintro e w4 ⟨rfl, hb4⟩; clear h; generalize bareO ⟨k, ex, n, a, l, s⟩ = q at *))
  go_wp2
  go_ret
  exact ⟨rfl, XW.trans (by assumption)⟩

theorem may_good (o : O) (w : World) (h : bareO o = { O.nil with kind := o.kind }) :
    Calls Try.prog 71 #[o.val] w fun e w' => e = .returned (.bool (mayO o)) ∧ Chg NoB w w' := by
  obtain ⟨k, ex, n, a, l, s⟩ := o
  have hm : mayO ⟨k, ex, n, a, l, s⟩ = mayO ⟨k, ex, n, a, l, s⟩ := rfl
  conv at hm => rhs; rw [mayO, h]
  simp only [eqO_self, Bool.true_and] at hm
  have Hm := Lib.hid hm
  clear hm
  have hd : eqO (bareO ⟨k, ex, n, a, l, s⟩) ⟨k, false, 0, 0, 0, ⟨#[]⟩⟩ = true := by
    exact eqO_iff.2 h
  go_enter Try.func71, Try.ntmps71
  go_wp2_with fail
  have hB := blk_new w (.cells #[.int .i64 k, .bool ex, .int .i64 n, .int .i64 a, .int .i64 l, .string s] 36)
  have XW := (Chg.refl NoB w).alloc (.cells #[.int .i64 k, .bool ex, .int .i64 n, .int .i64 a, .int .i64 l, .string s] 36)
  generalize hW : w.alloc _ = W at *
  clear hW
  have R := Chg.cells (S := NoB) hB id
  have X := Chg.refl NoB W
  go_region_held3 (fun w' => Chg NoB W w') (first | assumption | (exact Chg.drew (by assumption)) | (exact Chg.pure (by assumption) (by assumption)))
    ((go_at_call 82; refine (bare_any ⟨k, ex, n, a, l, s⟩ _).mono ?_; rintro e w4 ⟨rfl, hb4⟩; clear h; generalize bareO ⟨k, ex, n, a, l, s⟩ = q at *))
  go_wp2_with (go_at_call 83; refine (within_any _ _ _ _).mono ?_; rintro e w' ⟨rfl, rfl⟩)
  all_goals
    go_ret
    refine ⟨?_, XW.trans (by assumption)⟩
    rw [Hm.out]
    clear R X XW Hm
    clear hd
    first | (simp_all; done) | (simp_all; omega)

theorem may_any (o : O) (w : World) :
    Calls Try.prog 71 #[o.val] w fun e w' => e = .returned (.bool (mayO o)) ∧ Chg NoB w w' := by
  by_cases h : bareO o = { O.nil with kind := o.kind }
  · exact may_good o w h
  · have : mayO o = false := by unfold mayO; rw [eqO_ne h]; rfl
    rw [this]; exact may_bad o w h
end Go.Proofs.Ytpgkjgceldleaaa
/- The heap as plain data: cells, their places in memory, and what it means that a world holds a heap. -/
namespace Go.Proofs.Ytpgkjgceldleaaa
open Go.RowKit

/-- A slice v of n elements (size cells each) whose cells are xs: nil, or a row from the head of a block on. -/
def Row (w : World) (T : TypeId) (size : Nat) (v : Value) (n : Nat) (xs : List Value) : Prop :=
  xs.length = n * size ∧
  ((v = .slice none 0 0 ∧ n = 0) ∨
   ∃ g cap cur fz, v = .slice (some ⟨g, 0, none⟩) n cap ∧ w.heap[g]? = some (.cells cur T fz) ∧ (fz = (0, 0) ∨ cur.size ≤ fz.1) ∧ n ≤ cap ∧ cap ≤ maxLen ∧ cur.size = cap * size ∧ cur.toList.take (n * size) = xs)

/-- A cell of the heap, as plain data. -/
structure C where
  text : Bool
  dict : Bool
  locked : Bool
  items : List O
  bytes : List UInt8
def C.size (c : C) : Nat := if c.text then c.bytes.length else c.items.length
def C.kind (c : C) : Int := if c.text then 8 else if c.dict then 10 else 9

abbrev vu8 (b : UInt8) : Value := .int .u8 b.toNat

/-- A cell and where it lies. -/
structure PC where
  p : Nat
  sl : Value
  c : C
abbrev ptr (b : Nat) : Value := .pointer (some ⟨b, 0, none⟩)
def PC.ptrs (x : PC) : List Value := if x.c.text then [.pointer none, ptr x.p] else [ptr x.p, .pointer none]
def PC.val (x : PC) : Value := .agg x.ptrs.toArray
def PC.foot (x : PC) : List Nat := x.p :: x.sl.ownBlock.toList
def PC.ok (w : World) (x : PC) : Prop :=
  if x.c.text then
    w.heap[x.p]? = some (.cells #[.bool x.c.locked, x.sl] 100 (0, 0)) ∧ Row w 5 1 x.sl x.c.bytes.length (x.c.bytes.map vu8) ∧ x.c.items = []
  else
    w.heap[x.p]? = some (.cells #[.bool x.c.locked, .bool x.c.dict, x.sl] 93 (0, 0)) ∧ Row w 36 6 x.sl x.c.items.length (x.c.items.flatMap O.cells) ∧ x.c.bytes = []

def used (L : List C) : Nat := (L.map C.size).sum

/-- A heap in memory. -/
structure HS where
  hp : Nat
  slv : Value
  L : List PC
abbrev HS.l (h : HS) : List C := h.L.map PC.c
def HS.foot (h : HS) : List Nat := h.hp :: (h.slv.ownBlock.toList ++ h.L.flatMap PC.foot)
structure HeapRep (w : World) (h : HS) : Prop where
  head : w.heap[h.hp]? = some (.cells #[h.slv, .int .i64 (used h.l : Nat)] 61 (0, 0))
  own : w.ownsRow 0 96 2 h.slv h.L.length (h.L.flatMap PC.ptrs)
  cell : ∀ x ∈ h.L, x.ok w
  apart : h.foot.Nodup
  most : h.L.length ≤ 2000
  room : used h.l ≤ 40000

/-! ### Rows -/
theorem Row.shape {w : World} {T : TypeId} {size : Nat} {v : Value} {n : Nat} {xs : List Value} (h : Row w T size v n xs) : ∃ a cap, v = .slice a n cap ∧ (n ≤ cap) := by
  rcases h.2 with ⟨rfl, rfl⟩ | ⟨g, cap, cur, fz, rfl, _, _, h1, _⟩
  · exact ⟨none, 0, rfl, Nat.le_refl _⟩
  · exact ⟨_, _, rfl, h1⟩
theorem Row.some' {w : World} {T : TypeId} {size : Nat} {v : Value} {n : Nat} {xs : List Value} (h : Row w T size v n xs) (hn : 0 < n) :
    ∃ g cap cur fz, v = .slice (some ⟨g, 0, none⟩) n cap ∧ w.heap[g]? = some (.cells cur T fz) ∧ (fz = (0, 0) ∨ cur.size ≤ fz.1) ∧ n ≤ cap ∧ cap ≤ maxLen ∧ cur.size = cap * size ∧ (∀ i, i < n * size → cur[i]? = xs[i]?) := by
  rcases h.2 with ⟨_, rfl⟩ | ⟨g, cap, cur, fz, h1, h2, h3, h4, h5, h6, h7⟩
  · omega
  · refine ⟨g, cap, cur, fz, h1, h2, h3, h4, h5, h6, fun i hi => ?_⟩
    rw [← h7, List.getElem?_take, if_pos hi]; simp
theorem Row.chg {w w' : World} {S : Nat → Prop} {T : TypeId} {size : Nat} {v : Value} {n : Nat} {xs : List Value} (h : Row w T size v n xs) (hc : Chg S w w') (hS : ∀ b ∈ v.ownBlock.toList, ¬ S b) : Row w' T size v n xs := by
  refine ⟨h.1, ?_⟩
  rcases h.2 with hn | ⟨g, cap, cur, fz, rfl, h2, rest⟩
  · exact .inl hn
  · exact .inr ⟨g, cap, cur, fz, rfl, hc.blk h2 (hS g (by simp [Value.ownBlock])), rest⟩
theorem Row.lt {w : World} {T : TypeId} {size : Nat} {v : Value} {n : Nat} {xs : List Value} (h : Row w T size v n xs) : ∀ b ∈ v.ownBlock.toList, b < w.heap.size := by
  rcases h.2 with ⟨rfl, _⟩ | ⟨g, cap, cur, fz, rfl, h2, rest⟩
  · simp [Value.ownBlock]
  · intro b hb; simp [Value.ownBlock] at hb; subst hb; exact blk_lt h2
theorem Row.of_owns {w : World} {T : TypeId} {size : Nat} {v : Value} {n : Nat} {xs : List Value} (h : w.ownsRow 0 T size v n xs) : Row w T size v n xs := by
  refine ⟨h.1, ?_⟩
  rcases h.2 with hn | ⟨g, cap, cur, h1, h2, h3, h4, h5, h6, h7⟩
  · exact .inl hn
  · exact .inr ⟨g, cap, cur, _, h1, h3, .inl rfl, h4, h5, h6, h7⟩
theorem owns_chg {w w' : World} {S : Nat → Prop} {T : TypeId} {size : Nat} {v : Value} {n : Nat} {xs : List Value} (h : w.ownsRow 0 T size v n xs) (hc : Chg S w w') (hS : ∀ b ∈ v.ownBlock.toList, ¬ S b) : w'.ownsRow 0 T size v n xs := by
  refine ⟨h.1, ?_⟩
  rcases h.2 with hn | ⟨g, cap, cur, rfl, h1, h2, rest⟩
  · exact .inl hn
  · exact .inr ⟨g, cap, cur, rfl, h1, hc.blk h2 (hS g (by simp [Value.ownBlock])), rest⟩
theorem HeapRep.row {w : World} {h : HS} (H : HeapRep w h) : Row w 96 2 h.slv h.L.length (h.L.flatMap PC.ptrs) := Row.of_owns H.own
theorem flat_length {α : Type} (f : α → List Value) (k : Nat) (hf : ∀ x, (f x).length = k) : ∀ L : List α, (L.flatMap f).length = L.length * k
  | [] => by simp
  | x :: L => by rw [List.flatMap_cons, List.length_append, hf, flat_length f k hf L, List.length_cons, Nat.succ_mul, Nat.add_comm]
theorem flat_get {α : Type} (f : α → List Value) (k : Nat) (hf : ∀ x, (f x).length = k) (j : Nat) (hj : j < k) : ∀ (L : List α) (i : Nat), (L.flatMap f)[i * k + j]? = (L[i]?).bind fun x => (f x)[j]?
  | [], i => by simp
  | x :: L, 0 => by rw [List.flatMap_cons, List.getElem?_append_left (by rw [hf]; omega)]; simp
  | x :: L, i + 1 => by
    rw [List.flatMap_cons, List.getElem?_append_right (by rw [hf, Nat.succ_mul]; omega), hf, show (i + 1) * k + j - k = i * k + j by rw [Nat.succ_mul]; omega, flat_get f k hf j hj L i]
    simp
theorem ptrs_length (x : PC) : x.ptrs.length = 2 := by unfold PC.ptrs; split <;> rfl
theorem cells_length (o : O) : o.cells.length = 6 := rfl

/-! ### A heap under changes elsewhere -/
theorem PC.ok.chg {w w' : World} {S : Nat → Prop} {x : PC} (h : x.ok w) (hc : Chg S w w') (hS : ∀ b ∈ x.foot, ¬ S b) : x.ok w' := by
  unfold PC.ok at h ⊢
  have h1 : ∀ b ∈ x.sl.ownBlock.toList, ¬ S b := fun b hb => hS b (by simp [PC.foot]; exact .inr (by simpa using hb))
  have h2 : ¬ S x.p := hS _ (by simp [PC.foot])
  split <;> rename_i ht <;> simp only [ht, if_true, if_false, Bool.false_eq_true] at h
  · exact ⟨hc.blk h.1 h2, h.2.1.chg hc h1, h.2.2⟩
  · exact ⟨hc.blk h.1 h2, h.2.1.chg hc h1, h.2.2⟩
theorem PC.ok.lt {w : World} {x : PC} (h : x.ok w) : ∀ b ∈ x.foot, b < w.heap.size := by
  intro b hb
  simp only [PC.foot, List.mem_cons] at hb
  unfold PC.ok at h
  split at h
  · rcases hb with rfl | hb
    · exact blk_lt h.1
    · exact h.2.1.lt b hb
  · rcases hb with rfl | hb
    · exact blk_lt h.1
    · exact h.2.1.lt b hb
theorem HeapRep.lt {w : World} {h : HS} (H : HeapRep w h) : ∀ b ∈ h.foot, b < w.heap.size := by
  intro b hb
  simp only [HS.foot, List.mem_cons, List.mem_append, List.mem_flatMap] at hb
  rcases hb with rfl | hb | ⟨x, hx, hb⟩
  · exact blk_lt H.head
  · exact H.row.lt b hb
  · exact (H.cell x hx).lt b hb
theorem HeapRep.chg {w w' : World} {S : Nat → Prop} {h : HS} (H : HeapRep w h) (hc : Chg S w w') (hS : ∀ b ∈ h.foot, ¬ S b) : HeapRep w' h where
  head := hc.blk H.head (hS _ (by simp [HS.foot]))
  own := owns_chg H.own hc fun b hb => hS b (by simp only [HS.foot, List.mem_cons, List.mem_append]; exact .inr (.inl hb))
  cell := fun x hx => (H.cell x hx).chg hc fun b hb => hS b (by simp only [HS.foot, List.mem_cons, List.mem_append, List.mem_flatMap]; exact .inr (.inr ⟨x, hx, hb⟩))
  apart := H.apart
  most := H.most
  room := H.room
theorem HeapRep.pure {w w' : World} {h : HS} (H : HeapRep w h) (hc : Chg NoB w w') : HeapRep w' h := H.chg hc fun _ _ e => e

/-! ### What a cell's list holds -/
theorem PC.ok.item {w : World} {x : PC} (h : x.ok w) (ht : x.c.text = false) {i : Nat} (hi : i < x.c.items.length) :
    ∃ g cap cur fz, x.sl = .slice (some ⟨g, 0, none⟩) x.c.items.length cap ∧ w.heap[g]? = some (.cells cur 36 fz) ∧ (fz = (0, 0) ∨ cur.size ≤ fz.1) ∧ x.c.items.length * 6 ≤ cur.size ∧ g ∈ x.sl.ownBlock.toList ∧
      cur[i * 6]? = some (.int .i64 x.c.items[i].kind) ∧ cur[i * 6 + 1]? = some (.bool x.c.items[i].exec) ∧ cur[i * 6 + 2]? = some (.int .i64 x.c.items[i].n) ∧
      cur[i * 6 + 3]? = some (.int .i64 x.c.items[i].pos) ∧ cur[i * 6 + 4]? = some (.int .i64 x.c.items[i].len) ∧ cur[i * 6 + 5]? = some (.string x.c.items[i].s) := by
  unfold PC.ok at h
  simp only [ht, if_false, Bool.false_eq_true] at h
  obtain ⟨g, cap, cur, fz, h1, h2, h3, h4, h5, h6, h7⟩ := h.2.1.some' (by omega)
  have e : ∀ j, j < 6 → cur[i * 6 + j]? = x.c.items[i].cells[j]? := fun j hj => by
    rw [h7 _ (by omega), flat_get O.cells 6 cells_length j hj, List.getElem?_eq_getElem hi]; rfl
  exact ⟨g, cap, cur, fz, h1, h2, h3, by rw [h6]; exact Nat.mul_le_mul_right _ h4, by rw [h1]; simp [Value.ownBlock], e 0 (by omega), e 1 (by omega), e 2 (by omega), e 3 (by omega), e 4 (by omega), e 5 (by omega)⟩
theorem PC.ok.byte {w : World} {x : PC} (h : x.ok w) (ht : x.c.text = true) {i : Nat} (hi : i < x.c.bytes.length) :
    ∃ g cap cur fz, x.sl = .slice (some ⟨g, 0, none⟩) x.c.bytes.length cap ∧ w.heap[g]? = some (.cells cur 5 fz) ∧ (fz = (0, 0) ∨ cur.size ≤ fz.1) ∧ x.c.bytes.length ≤ cur.size ∧ g ∈ x.sl.ownBlock.toList ∧
      cur[i]? = some (vu8 x.c.bytes[i]) := by
  unfold PC.ok at h
  simp only [ht, if_true] at h
  obtain ⟨g, cap, cur, fz, h1, h2, h3, h4, h5, h6, h7⟩ := h.2.1.some' (by omega)
  refine ⟨g, cap, cur, fz, h1, h2, h3, by omega, by rw [h1]; simp [Value.ownBlock], ?_⟩
  rw [h7 _ (by omega)]; simp [hi]
theorem PC.ok.shape {w : World} {x : PC} (h : x.ok w) : ∃ a cap, x.sl = .slice a x.c.size cap ∧ x.c.size ≤ cap := by
  unfold PC.ok at h
  unfold C.size
  split at h <;> rename_i ht <;> simp only [ht, if_true, if_false, Bool.false_eq_true]
  · exact h.2.1.shape
  · exact h.2.1.shape
theorem PC.ok.head {w : World} {x : PC} (h : x.ok w) : (x.c.text = true → w.heap[x.p]? = some (.cells #[.bool x.c.locked, x.sl] 100 (0, 0))) ∧ (x.c.text = false → w.heap[x.p]? = some (.cells #[.bool x.c.locked, .bool x.c.dict, x.sl] 93 (0, 0))) := by
  unfold PC.ok at h
  split at h <;> rename_i ht <;> simp only [ht]
  · exact ⟨fun _ => h.1, fun e => by simp at e⟩
  · exact ⟨fun e => by simp at e, fun _ => h.1⟩

/-! ### What the heap's functions compute -/
def held (o : O) : Bool := o.kind == 9 || o.kind == 8 || o.kind == 10
def mayH (L : List C) (o : O) : Bool :=
  mayO o && (!held o || (decide (o.n < L.length) && match L[o.n.toNat]? with
    | some c => decide (c.kind = o.kind) && decide (o.pos + o.len ≤ c.size)
    | none => false))
def findE (L : List C) (o : O) : Int := if held o = false then 6 else if mayH L o = false then 1 else 0
/-- Where what an object stands for begins, and how many. -/
def atOf (o : O) : Int := if o.kind = 10 then 0 else o.pos
def lenOf (c : C) (o : O) : Int := if o.kind = 10 then c.size else o.len

/-- What Get answers. -/
def getH (L : List C) (o : O) (i : Int) : O × Int :=
  if findE L o ≠ 0 then (O.nil, findE L o)
  else match L[o.n.toNat]? with
    | none => (O.nil, 0)
    | some c =>
      if i < 0 ∨ lenOf c o ≤ i then (O.nil, 12)
      else if c.text then (⟨3, false, (c.bytes.getD (atOf o + i).toNat 0).toNat, 0, 0, ⟨#[]⟩⟩, 0)
      else (c.items.getD (atOf o + i).toNat O.nil, 0)
/-- What Set answers, and leaves. -/
def setH (L : List C) (o : O) (i : Int) (x : O) : List C × Int :=
  if findE L o ≠ 0 then (L, findE L o)
  else match L[o.n.toNat]? with
    | none => (L, 0)
    | some c =>
      if i < 0 ∨ lenOf c o ≤ i then (L, 12)
      else if c.locked then (L, 1)
      else if c.text then
        if x.kind ≠ 3 then (L, 6)
        else if x.n < 0 ∨ 255 < x.n then (L, 2)
        else (L.set o.n.toNat { c with bytes := c.bytes.set (atOf o + i).toNat (UInt8.ofNat x.n.toNat) }, 0)
      else if mayH L x = false then (L, 1)
      else (L.set o.n.toNat { c with items := c.items.set (atOf o + i).toNat x }, 0)
/-- The heap h has become one that holds L. -/
def Next (w : World) (h : HS) (w' : World) (L : List C) : Prop :=
  ∃ h' : HS, h'.hp = h.hp ∧ h'.l = L ∧ HeapRep w' h' ∧ Chg (· ∈ h.foot) w w' ∧ ∀ b ∈ h'.foot, b ∈ h.foot ∨ w.heap.size ≤ b
end Go.Proofs.Ytpgkjgceldleaaa
/- One cell of a heap is turned in place: plain facts. -/
namespace Go.Proofs.Ytpgkjgceldleaaa
open Go.RowKit

theorem foot_set (hp : Nat) (slv : Value) (L : List PC) (N : Nat) (x : PC) (hN : N < L.length) (h1 : x.p = L[N].p) (h2 : x.sl = L[N].sl) :
    HS.foot ⟨hp, slv, L.set N x⟩ = HS.foot ⟨hp, slv, L⟩ := by
  have hx : x.foot = L[N].foot := by simp [PC.foot, h1, h2]
  have : ∀ (L : List PC) (N : Nat) (hN : N < L.length), x.foot = L[N].foot → (L.set N x).flatMap PC.foot = L.flatMap PC.foot := by
    intro L
    induction L with
    | nil => intro N hN; simp at hN
    | cons y L ih =>
      intro N hN hx
      cases N with
      | zero => simp only [List.getElem_cons_zero] at hx; simp [List.set, hx]
      | succ N => simp only [List.getElem_cons_succ] at hx; simp only [List.set, List.flatMap_cons]; rw [ih N (by simpa using hN) hx]
  simp only [HS.foot]
  rw [this L N hN hx]

theorem ptrs_set (L : List PC) (N : Nat) (x : PC) (hN : N < L.length) (hx : x.ptrs = L[N].ptrs) : (L.set N x).flatMap PC.ptrs = L.flatMap PC.ptrs := by
  induction L generalizing N with
  | nil => simp at hN
  | cons y L ih =>
    cases N with
    | zero => simp only [List.getElem_cons_zero] at hx; simp [List.set, hx]
    | succ N => simp only [List.getElem_cons_succ] at hx; simp only [List.set, List.flatMap_cons]; rw [ih N (by simpa using hN) hx]

theorem sum_set (L : List Nat) (N : Nat) (hN : N < L.length) : (L.set N L[N]).sum = L.sum := by simp

theorem HeapRep.apart_cells {w : World} {hp : Nat} {slv : Value} {L : List PC} (H : HeapRep w ⟨hp, slv, L⟩) {i j : Nat} (hi : i < L.length) (hj : j < L.length) (hij : i ≠ j) : ∀ b ∈ L[i].foot, b ∉ L[j].foot := by
  have h1 : (L.flatMap PC.foot).Nodup := by
    have := H.apart
    simp only [HS.foot, List.nodup_cons, List.nodup_append] at this
    exact this.2.2.1
  have h2 := (List.pairwise_flatMap.1 h1).2
  intro b hb hb'
  rcases Nat.lt_or_gt_of_ne hij with h | h
  · exact (List.pairwise_iff_getElem.1 h2 i j hi hj h) b hb b hb' rfl
  · exact (List.pairwise_iff_getElem.1 h2 j i hj hi h) b hb' b hb rfl
theorem HeapRep.apart_head {w : World} {hp : Nat} {slv : Value} {L : List PC} (H : HeapRep w ⟨hp, slv, L⟩) {i : Nat} (hi : i < L.length) : hp ∉ L[i].foot ∧ ∀ b ∈ slv.ownBlock.toList, b ∉ L[i].foot := by
  have := H.apart
  simp only [HS.foot, List.nodup_cons, List.nodup_append, List.mem_append, List.mem_flatMap, not_or, not_exists, not_and] at this
  refine ⟨fun h => this.1.2 _ (List.getElem_mem hi) h, fun b hb h => ?_⟩
  exact this.2.2.2 b hb b ⟨_, List.getElem_mem hi, h⟩ rfl

/-- One cell, in its place, has become another of the same size. -/
theorem HeapRep.update {w w' : World} {hp : Nat} {slv : Value} {L : List PC} (H : HeapRep w ⟨hp, slv, L⟩) {N : Nat} (hN : N < L.length) (x : PC)
    (hc : Chg (· ∈ L[N].foot) w w') (hok : x.ok w') (h1 : x.p = L[N].p) (h2 : x.sl = L[N].sl) (h3 : x.c.text = L[N].c.text) (h4 : x.c.size = L[N].c.size) :
    HeapRep w' ⟨hp, slv, L.set N x⟩ := by
  have hu : used ((L.set N x).map PC.c) = used (L.map PC.c) := by
    unfold used
    congr 1
    apply List.ext_getElem?
    intro i
    simp only [List.getElem?_map, List.getElem?_set]
    split
    · rename_i e; subst e
      simp [hN, h4]
    · rfl
  have hptr : x.ptrs = L[N].ptrs := by simp [PC.ptrs, h1, h3]
  obtain ⟨a1, a2⟩ := H.apart_head hN
  refine ⟨?_, ?_, ?_, ?_, ?_, ?_⟩
  · have := hc.blk H.head a1
    simp only [HS.l] at this ⊢
    rw [hu]; exact this
  · have := owns_chg H.own hc a2
    simp only [List.length_set] at this ⊢
    rw [ptrs_set L N x hN hptr]; exact this
  · intro y hy
    obtain ⟨i, hi, rfl⟩ := List.mem_iff_getElem.1 hy
    simp only [List.length_set] at hi
    by_cases e : N = i
    · subst e; simpa using hok
    · simp only [List.getElem_set, e, if_false]
      exact (H.cell _ (List.getElem_mem hi)).chg hc (fun b hb hb' => H.apart_cells hi hN (fun q => e q.symm) b hb hb')
  · rw [foot_set hp slv L N x hN h1 h2]; exact H.apart
  · have := H.most; simpa using this
  · have := H.room; simp only [HS.l] at this ⊢; rw [hu]; exact this

theorem Row.set1 {w : World} {T : TypeId} {g cap : Nat} {n : Nat} {xs : List Value} (h : Row w T 1 (.slice (some ⟨g, 0, none⟩) n cap) n xs) {j : Nat} (_hj : j < n) (v : Value) :
    Row (w.setCell ⟨g, j, none⟩ v) T 1 (.slice (some ⟨g, 0, none⟩) n cap) n (xs.set j v) := by
  refine ⟨by simpa using h.1, .inr ?_⟩
  rcases h.2 with ⟨e, _⟩ | ⟨g', cap', cur, fz, e, h2, h3, h4, h5, h6, h7⟩
  · simp at e
  · simp at e
    obtain ⟨rfl, rfl⟩ := e
    refine ⟨g, cap, _, fz, rfl, blk_set h2 j v, ?_, h4, h5, by simpa using h6, ?_⟩
    · simpa using h3
    · rw [← h7, Array.toList_setIfInBounds, List.take_set]

theorem flat_set (f : O → List Value) (hf : ∀ x, (f x).length = 6) (L : List O) (j : Nat) (o : O) (hj : j < L.length) :
    (L.set j o).flatMap f = (((((((L.flatMap f).set (j * 6) ((f o).getD 0 undef)).set (j * 6 + 1) ((f o).getD 1 undef)).set (j * 6 + 2) ((f o).getD 2 undef)).set (j * 6 + 3) ((f o).getD 3 undef)).set (j * 6 + 4) ((f o).getD 4 undef)).set (j * 6 + 5) ((f o).getD 5 undef)) := by
  apply List.ext_getElem?
  intro m
  have hm : m = m / 6 * 6 + m % 6 := by omega
  have hr : m % 6 < 6 := Nat.mod_lt _ (by omega)
  generalize m / 6 = q at *
  generalize m % 6 = r at *
  subst hm
  have hl := flat_length f 6 hf L
  have hfo := hf o
  rw [flat_get f 6 hf r hr]
  simp only [List.getElem?_set, List.length_set, hl]
  by_cases e : j = q
  · subst e
    have e' : j = j := rfl
    have c : r = 0 ∨ r = 1 ∨ r = 2 ∨ r = 3 ∨ r = 4 ∨ r = 5 := by omega
    have hq : ∀ k, k < 6 → j * 6 + k < L.length * 6 := by intro k hk; omega
    have g : ∀ k, k < 6 → (f o)[k]? = some ((f o).getD k undef) := by intro k hk; simp [hfo, hk]
    rw [if_pos e', if_pos hj]
    simp only [Option.bind_some]
    rw [g r hr]
    rcases c with rfl | rfl | rfl | rfl | rfl | rfl
    · simp [show j * 6 < L.length * 6 by omega]
    · simp [hq]
    · simp [hq]
    · simp [hq]
    · simp [hq]
    · simp [hq]
  · have n0 : ¬ j * 6 = q * 6 + r := by omega
    have n1 : ¬ j * 6 + 1 = q * 6 + r := by omega
    have n2 : ¬ j * 6 + 2 = q * 6 + r := by omega
    have n3 : ¬ j * 6 + 3 = q * 6 + r := by omega
    have n4 : ¬ j * 6 + 4 = q * 6 + r := by omega
    have n5 : ¬ j * 6 + 5 = q * 6 + r := by omega
    simp only [e, n0, n1, n2, n3, n4, n5, if_false]
    rw [flat_get f 6 hf r hr]

/-- The world behind the six stores of an object. -/
abbrev put6 (w : World) (g m : Nat) (o : O) : World :=
  (((((w.setCell ⟨g, m, none⟩ (.int .i64 o.kind)).setCell ⟨g, m + 1, none⟩ (.bool o.exec)).setCell ⟨g, m + 2, none⟩ (.int .i64 o.n)).setCell ⟨g, m + 3, none⟩ (.int .i64 o.pos)).setCell ⟨g, m + 4, none⟩ (.int .i64 o.len)).setCell ⟨g, m + 5, none⟩ (.string o.s)

theorem Row.set6 {w : World} {T : TypeId} {g cap : Nat} {L : List O} (h : Row w T 6 (.slice (some ⟨g, 0, none⟩) L.length cap) L.length (L.flatMap O.cells)) {j : Nat} (hj : j < L.length) (o : O) :
    Row (put6 w g (j * 6) o) T 6 (.slice (some ⟨g, 0, none⟩) L.length cap) L.length ((L.set j o).flatMap O.cells) := by
  refine ⟨by rw [flat_length O.cells 6 cells_length]; simp, .inr ?_⟩
  rcases h.2 with ⟨e, _⟩ | ⟨g', cap', cur, fz, e, h2, h3, h4, h5, h6, h7⟩
  · simp at e
  · simp at e
    obtain ⟨rfl, rfl⟩ := e
    refine ⟨g, cap, _, fz, rfl, blk_set (blk_set (blk_set (blk_set (blk_set (blk_set h2 _ _) _ _) _ _) _ _) _ _) _ _, ?_, h4, h5, by simpa using h6, ?_⟩
    · simpa using h3
    · rw [flat_set O.cells cells_length L j o hj, ← h7]
      simp only [Array.toList_setIfInBounds, List.take_set]
      rfl

theorem Chg.one {S : Nat → Prop} {a w : World} (h : Chg S a w) {p : Addr} (hp : S p.block) (u : Value) : Chg S a (w.setCell p u) := h.setCell (.inl hp) u

theorem Next.same {w w' : World} {h : HS} (H : HeapRep w h) (X : Chg NoB w w') : Next w h w' h.l :=
  ⟨h, rfl, rfl, H.pure X, X.mono (fun _ _ e => e.elim), fun _b hb => .inl hb⟩

/-- A byte of a text. -/
theorem Next.byte {w w' : World} {hp : Nat} {slv : Value} {L : List PC} (H : HeapRep w ⟨hp, slv, L⟩) (X : Chg NoB w w') {N : Nat} (hN : N < L.length) (ht : L[N].c.text = true) {g cap j : Nat}
    (hsl : L[N].sl = .slice (some ⟨g, 0, none⟩) L[N].c.bytes.length cap) (hj : j < L[N].c.bytes.length) (b : UInt8) :
    Next w ⟨hp, slv, L⟩ (w'.setCell ⟨g, j, none⟩ (vu8 b)) ((L.map PC.c).set N { L[N].c with bytes := L[N].c.bytes.set j b }) := by
  have H' := H.pure X
  have hg : g ∈ L[N].foot := by simp [PC.foot, hsl, Value.ownBlock]
  have hc : Chg (· ∈ L[N].foot) w' (w'.setCell ⟨g, j, none⟩ (vu8 b)) := (Chg.refl _ _).one hg _
  have hin : ∀ b ∈ L[N].foot, b ∈ HS.foot ⟨hp, slv, L⟩ := fun b hb => by simp only [HS.foot, List.mem_cons, List.mem_append, List.mem_flatMap]; exact .inr (.inr ⟨_, List.getElem_mem hN, hb⟩)
  refine ⟨⟨hp, slv, L.set N { L[N] with c := { L[N].c with bytes := L[N].c.bytes.set j b } }⟩, rfl, by simp [HS.l], H'.update hN _ hc ?_ rfl rfl rfl (by simp [C.size]),
    (X.mono (fun _ _ e => e.elim)).trans (hc.mono (fun i _ hi => hin i hi)), fun i hb => .inl ?_⟩
  · have hok := H'.cell _ (List.getElem_mem hN)
    have hp0 : L[N].p ≠ g := by
      intro e
      have := H.apart
      simp only [HS.foot, List.nodup_cons, List.nodup_append] at this
      have h2 := (List.pairwise_flatMap.1 this.2.2.1).1 _ (List.getElem_mem hN)
      simp only [PC.foot, hsl, Value.ownBlock, Option.toList, List.pairwise_cons, List.mem_singleton] at h2
      exact h2.1 g rfl e
    unfold PC.ok at hok ⊢
    simp only [ht, if_true] at hok ⊢
    obtain ⟨q1, q2, q3⟩ := hok
    refine ⟨blk_set_other q1 hp0 _, ?_, q3⟩
    rw [hsl] at q2 ⊢
    have := q2.set1 hj (vu8 b)
    simp only [List.length_set]
    rw [List.map_set]
    exact this
  · rw [foot_set hp slv L N { L[N] with c := { L[N].c with bytes := L[N].c.bytes.set j b } } hN rfl rfl] at hb; exact hb

/-- An item of a row. -/
theorem Next.item {w w' : World} {hp : Nat} {slv : Value} {L : List PC} (H : HeapRep w ⟨hp, slv, L⟩) (X : Chg NoB w w') {N : Nat} (hN : N < L.length) (ht : L[N].c.text = false) {g cap j : Nat}
    (hsl : L[N].sl = .slice (some ⟨g, 0, none⟩) L[N].c.items.length cap) (hj : j < L[N].c.items.length) (o : O) :
    Next w ⟨hp, slv, L⟩ (put6 w' g (j * 6) o) ((L.map PC.c).set N { L[N].c with items := L[N].c.items.set j o }) := by
  have H' := H.pure X
  have hg : g ∈ L[N].foot := by simp [PC.foot, hsl, Value.ownBlock]
  have hc : Chg (· ∈ L[N].foot) w' (put6 w' g (j * 6) o) := ((((((Chg.refl _ _).one hg _).one hg _).one hg _).one hg _).one hg _).one hg _
  have hin : ∀ b ∈ L[N].foot, b ∈ HS.foot ⟨hp, slv, L⟩ := fun b hb => by simp only [HS.foot, List.mem_cons, List.mem_append, List.mem_flatMap]; exact .inr (.inr ⟨_, List.getElem_mem hN, hb⟩)
  refine ⟨⟨hp, slv, L.set N { L[N] with c := { L[N].c with items := L[N].c.items.set j o } }⟩, rfl, by simp [HS.l], H'.update hN _ hc ?_ rfl rfl rfl (by simp [C.size]),
    (X.mono (fun _ _ e => e.elim)).trans (hc.mono (fun i _ hi => hin i hi)), fun i hb => .inl ?_⟩
  · have hok := H'.cell _ (List.getElem_mem hN)
    have hp0 : L[N].p ≠ g := by
      intro e
      have := H.apart
      simp only [HS.foot, List.nodup_cons, List.nodup_append] at this
      have h2 := (List.pairwise_flatMap.1 this.2.2.1).1 _ (List.getElem_mem hN)
      simp only [PC.foot, hsl, Value.ownBlock, Option.toList, List.pairwise_cons, List.mem_singleton] at h2
      exact h2.1 g rfl e
    unfold PC.ok at hok ⊢
    simp only [ht, if_false, Bool.false_eq_true] at hok ⊢
    obtain ⟨q1, q2, q3⟩ := hok
    refine ⟨blk_set_other (blk_set_other (blk_set_other (blk_set_other (blk_set_other (blk_set_other q1 hp0 _) hp0 _) hp0 _) hp0 _) hp0 _) hp0 _, ?_, q3⟩
    rw [hsl] at q2 ⊢
    have := q2.set6 hj o
    simp only [List.length_set]
    exact this
  · rw [foot_set hp slv L N { L[N] with c := { L[N].c with items := L[N].c.items.set j o } } hN rfl rfl] at hb; exact hb
end Go.Proofs.Ytpgkjgceldleaaa
/- A string made into bytes: what the world becomes. -/
namespace Go.Proofs.Ytpgkjgceldleaaa
open Go.RowKit
theorem Try.underStr : Try.prog.underlying 9 = some .string := by kernel_rfl
theorem Try.underBytes : Try.prog.underlying 46 = some (.slice 5) := by kernel_rfl
theorem Try.underByte : Try.prog.underlying 5 = some (.int .u8) := by kernel_rfl
def strCap (w : World) (s : ByteArray) : Nat := (Question.appendCap s.size 0 5).cut (w.tape w.drawn (Question.appendCap s.size 0 5))
def strCells (w : World) (s : ByteArray) : Array Value := (s.data.map fun b => Value.int .u8 b.toNat) ++ Array.replicate (strCap w s - s.size) (.int .u8 0)
def strW (w : World) (s : ByteArray) : World := (w.drew.alloc (.cells (strCells w s) 5)).freeze ⟨w.heap.size, (strCells w s).size, none⟩ 1
theorem run_str_bytes (s : ByteArray) (w : World) : (convert 9 46 (.string s)).run Try.prog w = .ok (.slice (some ⟨w.heap.size, 0, none⟩) s.size (strCap w s)) (strW w s) := by
  simp only [convert, Sem.run_bind, run_underlying Try.underStr, run_underlying Try.underBytes, run_underlying Try.underByte, Result.andThen_ok, Conv.stringToBytes, run_choose, Question.forced, newRow, run_newObj, Sem.run_pure, markStringish, run_shape, if_false, Bool.false_eq_true]
  have e : (w.drew.alloc (.cells (strCells w s) 5)).shape? w.heap.size = some (5, (strCells w s).size) := by
    have := blk_new w.drew (.cells (strCells w s) 5)
    simp only [World.size_drew] at this
    simp only [World.shape?, this]
  simp only [World.alloc, World.drew, strCells, strCap] at e
  rw [e]
  rfl
theorem strCap_ge (w : World) (s : ByteArray) : s.size ≤ strCap w s := by simp [strCap, Question.cut]
theorem strCap_le (w : World) (s : ByteArray) (h : s.size ≤ maxLen) : strCap w s ≤ maxLen := by
  have hlt := Nat.mod_lt (w.tape w.drawn (Question.appendCap s.size 0 5)) (show 0 < 2 ^ 63 - s.size by simp only [maxLen] at h; omega)
  simp only [strCap, Question.cut, maxLen] at h ⊢
  omega
theorem strCells_size (w : World) (s : ByteArray) : (strCells w s).size = strCap w s := by
  have := strCap_ge w s
  have e : s.data.size = s.size := rfl
  simp [strCells, e]; omega
theorem strW_blk (w : World) (s : ByteArray) : (strW w s).heap[w.heap.size]? = some (.cells (strCells w s) 5 ((strCells w s).size, (strCells w s).size + 1)) := by
  have := blk_new w.drew (.cells (strCells w s) 5)
  simp only [World.size_drew] at this
  simp only [strW, World.freeze, Nat.succ_ne_zero, if_false, Array.getElem?_modify, if_true, this, Option.map_some]
  simp
theorem strW_chg (w : World) (s : ByteArray) : Chg NoB w (strW w s) := by
  refine ⟨rfl, rfl, rfl, by simp [strW, World.freeze], fun k hk _ => ?_⟩
  simp only [strW, World.freeze, Nat.succ_ne_zero, if_false, Array.getElem?_modify]
  rw [if_neg (by omega)]
  exact Below.heap_alloc _ _ _ hk
@[go_sem] theorem strW_size (w : World) (s : ByteArray) : (strW w s).heap.size = w.heap.size + 1 := by simp [strW, World.freeze]
theorem strW_row {w W : World} {s : ByteArray} (hs : s.size ≤ 40000) (h : Chg NoB (strW w s) W) : Row W 5 1 (.slice (some ⟨w.heap.size, 0, none⟩) s.size (strCap w s)) s.size (s.toList.map vu8) := by
  have e : s.toList.length = s.size := by rw [ByteArray.toList_eq]; rfl
  refine ⟨by simp [e], .inr ⟨_, _, _, _, rfl, h.blk (strW_blk w s) id, .inr (Nat.le_refl _), strCap_ge w s, strCap_le w s (by unfold maxLen; omega), by rw [strCells_size]; omega, ?_⟩⟩
  simp only [strCells, Array.toList_append, Nat.mul_one, Array.toList_map]
  rw [List.take_append_of_le_length (by simp), ByteArray.toList_eq, List.take_of_length_le (by simp)]
end Go.Proofs.Ytpgkjgceldleaaa
/- Walk: heap.nulls. -/
namespace Go.Proofs.Ytpgkjgceldleaaa
open Go.RowKit

theorem Hid.mk'' {p : Prop} (h : p) : Hid p := h
def nullO : O := ⟨1, false, 0, 0, 0, ⟨#[]⟩⟩
theorem Try.infoObj : (Try.prog.info? 36).map (fun i => (i.zero, i.size, i.bytes)) = some (some O.nil.val, 6, 56) := by kernel_rfl
theorem Try.underObjs : Try.prog.underlying 32 = some (.slice 36) := by kernel_rfl
def zrow (n : Nat) : Array Value := madeCells O.nil.cells.toArray (n * 6)
theorem run_make_objs (n : Nat) (hn : n ≤ 1000000) (w : World) :
    (Instr.makeSlice 32 (.int .i64 (n : Int)) (.int .i64 (n : Int))).run Try.prog w = .ok (.slice (some ⟨w.heap.size, 0, none⟩) n n) (w.alloc (.cells (zrow n) 36)) := by
  obtain ⟨i0, hi, hz0, hz1, hz2⟩ := info_parts Try.infoObj
  have hr := run_make (P := Try.prog) w _ _ i0 _ Try.underObjs hi hz0 .i64 .i64 n n (by omega) (Int.le_refl _) (by rw [hz2]; omega) (by omega)
  simp only [Int.toNat_natCast, hz1] at hr
  exact hr
theorem zrow_toList (n : Nat) : (zrow n).toList = (List.replicate n O.nil).flatMap O.cells := by
  apply List.ext_getElem?
  intro m
  have hm : m = m / 6 * 6 + m % 6 := by omega
  have hr : m % 6 < 6 := Nat.mod_lt _ (by omega)
  have hmod : m % 6 = m % 6 := rfl
  rw [hm, flat_get O.cells 6 cells_length _ hr]
  simp only [List.getElem?_replicate]
  by_cases h : m / 6 < n
  · have h2 : m / 6 * 6 + m % 6 < n * 6 := by omega
    rw [if_pos h]
    simp only [zrow, madeCells, Array.toList_map, Array.toList_range, List.getElem?_map, List.getElem?_range h2, Option.map_some, Option.bind_some]
    have : (m / 6 * 6 + m % 6) % 6 = m % 6 := by omega
    generalize m % 6 = r at *
    simp only [O.nil, O.cells, List.size_toArray, List.length_cons, List.length_nil]
    rw [this]
    have c : r = 0 ∨ r = 1 ∨ r = 2 ∨ r = 3 ∨ r = 4 ∨ r = 5 := by omega
    rcases c with rfl | rfl | rfl | rfl | rfl | rfl <;> rfl
  · rw [if_neg h]
    simp [zrow, madeCells]; omega

theorem flat_set0 (L : List O) (j : Nat) (hj : j < L.length) (o : O) (v : Value) (h : o.cells = L[j].cells.set 0 v) : (L.set j o).flatMap O.cells = (L.flatMap O.cells).set (j * 6) v := by
  induction L generalizing j with
  | nil => simp at hj
  | cons x L ih =>
    cases j with
    | zero =>
      simp only [List.getElem_cons_zero] at h
      simp only [List.set_cons_zero, List.flatMap_cons, h, Nat.zero_mul]
      rw [List.set_append_left _ _ (by simp [cells_length])]
    | succ j =>
      simp only [List.getElem_cons_succ] at h
      simp only [List.set_cons_succ, List.flatMap_cons]
      rw [ih j (by simpa using hj) h, List.set_append_right _ _ (by simp [cells_length]; omega)]
      congr 2
      simp [cells_length]; omega
theorem rep_set (n k : Nat) (hk : k < n) : (List.replicate k nullO ++ List.replicate (n - k) O.nil).set k nullO = List.replicate (k + 1) nullO ++ List.replicate (n - (k + 1)) O.nil := by
  rw [List.set_append_right _ _ (by simp)]
  obtain ⟨m, rfl⟩ : ∃ m, n = k + 1 + m := ⟨n - (k + 1), by omega⟩
  rw [show k + 1 + m - k = m + 1 by omega, show k + 1 + m - (k + 1) = m by omega]
  rw [List.length_replicate, Nat.sub_self, List.replicate_succ (n := m), List.set_cons_zero, List.replicate_succ' (n := k), List.append_assoc, List.singleton_append]

theorem nulls_any (n : Nat) (hn : n ≤ 1000000) (w : World) :
   Calls Try.prog 44 #[.int .i64 n] w fun e w' => e = .returned (.slice (some ⟨w.heap.size, 0, none⟩) n n) ∧ Chg NoB w w' ∧
     ∃ cur : Array Value, w'.heap[w.heap.size]? = some (.cells cur 36 (0, 0)) ∧ cur.toList = (List.replicate n nullO).flatMap O.cells := by
  have hmk := run_make_objs n hn w
  go_enter Try.func44, Try.ntmps44
  go_wp2
  go_loopw [4, 9] (fun _ i9 wr => ∃ (k : Nat) (cur : Array Value), k ≤ n ∧ i9 = .int .i64 k ∧ wr.heap[w.heap.size]? = some (.cells cur 36 (0, 0)) ∧ cur.toList = (List.replicate k nullO ++ List.replicate (n - k) O.nil).flatMap O.cells ∧ Chg NoB w wr) (fun _ i9 _ => n - (intOf i9).toNat)
  case atStart => exact ⟨0, _, Nat.zero_le _, rfl, blk_new w _, by simp [zrow_toList], (Chg.refl _ _).alloc _⟩
  case round =>
    obtain ⟨k, cur, hk, rfl, hc, hl, X⟩ := hrel
    have R := cells_of hc
    have Z := free_of hc
    have lc := blk_lt hc
    by_cases hlt : k < n
    · have e0 : cur[k * 6]? = some (.int .i64 0) := by
        have := flat_get O.cells 6 cells_length 0 (by omega) (List.replicate k nullO ++ List.replicate (n - k) O.nil) k
        rw [← hl] at this
        simp only [Nat.add_zero, Array.getElem?_toList] at this
        rw [this, List.getElem?_append_right (by simp)]
        simp [show 0 < n - k by omega, O.cells, O.nil]
      have HL := Hid.mk'' hl
      clear hl hmk
      go_wp2
      go_roundw
      case rel =>
        refine ⟨k + 1, _, by omega, by go_num, blk_set hc (k * 6) (.int .i64 1), ?_, X.setCell (.inr (Nat.le_refl _)) _⟩
        rw [Array.toList_setIfInBounds, HL.out, ← rep_set n k hlt]
        refine (flat_set0 _ k (by simp; omega) nullO _ ?_).symm
        rw [List.getElem_append_right (by simp)]
        simp [O.cells, O.nil, nullO]
      case measure => simp [intOf]; omega
    · have hkn : k = n := by omega
      subst hkn
      go_wp2
      go_ret
      exact ⟨rfl, X, cur, hc, by simpa using hl⟩
end Go.Proofs.Ytpgkjgceldleaaa
/- Walks: heap.held, inside, and the methods of a cell. -/
namespace Go.Proofs.Ytpgkjgceldleaaa
open Go.RowKit

theorem held_any (o : O) (w : World) :
   Calls Try.prog 70 #[o.val] w fun e w' => e = .returned (.bool (held o)) ∧ Chg NoB w w' := by
  obtain ⟨k, ex, n, a, l, s⟩ := o
  have Hm : Hid (held ⟨k, ex, n, a, l, s⟩ = (k == 9 || k == 8 || k == 10)) := rfl
  go_enter Try.func70, Try.ntmps70
  go_wp2
  all_goals
    go_ret
    refine ⟨?_, (Chg.refl _ _).alloc _⟩
    rw [Hm.out]
    simp_all

theorem kind_any (x : PC) (w : World) (h : x.ok w) :
   Calls Try.prog 69 #[x.val] w fun e w' => e = .returned (.int .i64 x.c.kind) ∧ Chg NoB w w' := by
  obtain ⟨p, sl, t, d, k, its, bs⟩ := x
  unfold PC.ok at h
  cases t <;> simp only [if_true, if_false, Bool.false_eq_true] at h
  · obtain ⟨h1, -⟩ := h
    have hl := blk_lt h1
    have R := Chg.cells (S := NoB) h1 id
    have X := Chg.refl NoB w
    cases d
    all_goals
      go_enter Try.func69, Try.ntmps69
      simp only [PC.val, PC.ptrs, if_false, Bool.false_eq_true]
      go_wp2
      go_ret
      exact ⟨rfl, X.alloc _⟩
  · go_enter Try.func69, Try.ntmps69
    simp only [PC.val, PC.ptrs, if_true]
    go_wp2
    go_ret
    exact ⟨rfl, (Chg.refl _ _).alloc _⟩

theorem size_any (x : PC) (w : World) (h : x.ok w) :
   Calls Try.prog 68 #[x.val] w fun e w' => e = .returned (.int .i64 x.c.size) ∧ Chg NoB w w' := by
  obtain ⟨p, sl, t, d, k, its, bs⟩ := x
  unfold PC.ok at h
  cases t <;> simp only [if_true, if_false, Bool.false_eq_true] at h
  all_goals
    obtain ⟨h1, h2, -⟩ := h
    obtain ⟨a, cap, rfl, hc⟩ := h2.shape
    have hl := blk_lt h1
    have R := Chg.cells (S := NoB) h1 id
    have X := Chg.refl NoB w
    go_enter Try.func68, Try.ntmps68
    simp only [PC.val, PC.ptrs, if_true, if_false, Bool.false_eq_true]
    go_wp2
    go_ret
    exact ⟨rfl, X.alloc _⟩

theorem locked_any (x : PC) (w : World) (h : x.ok w) :
   Calls Try.prog 46 #[x.val] w fun e w' => e = .returned (.bool x.c.locked) ∧ Chg NoB w w' := by
  obtain ⟨p, sl, t, d, k, its, bs⟩ := x
  unfold PC.ok at h
  cases t <;> simp only [if_true, if_false, Bool.false_eq_true] at h
  all_goals
    obtain ⟨h1, h2, -⟩ := h
    have hl := blk_lt h1
    have R := Chg.cells (S := NoB) h1 id
    have X := Chg.refl NoB w
    go_enter Try.func46, Try.ntmps46
    simp only [PC.val, PC.ptrs, if_true, if_false, Bool.false_eq_true]
    go_wp2
    go_ret
    exact ⟨rfl, X.alloc _⟩
end Go.Proofs.Ytpgkjgceldleaaa
/- Walks: (*Heap).May. -/
namespace Go.Proofs.Ytpgkjgceldleaaa
open Go.RowKit

/-- The place of a cell's two pointers in the row of a heap's cells. -/
theorem PC.ptrs_eq (x : PC) : ∃ u v, x.ptrs = [.pointer u, .pointer v] := by
  unfold PC.ptrs; split <;> exact ⟨_, _, rfl⟩
theorem HeapRep.at' {w : World} {hp : Nat} {slv : Value} {L : List PC} (H : HeapRep w ⟨hp, slv, L⟩) {i : Nat} (hi : i < L.length) :
    ∃ g cap cur fz u v, slv = .slice (some ⟨g, 0, none⟩) L.length cap ∧ w.heap[g]? = some (.cells cur 96 fz) ∧ cur[i * 2]? = some (.pointer u) ∧ cur[i * 2 + 1]? = some (.pointer v) ∧ L[i].ptrs = [.pointer u, .pointer v] ∧ g < w.heap.size := by
  obtain ⟨g, cap, cur, fz, h1, h2, h3, h4, h5, h6, h7⟩ := H.row.some' (by show 0 < L.length; omega)
  obtain ⟨u, v, hp2⟩ := L[i].ptrs_eq
  refine ⟨g, cap, cur, fz, u, v, h1, h2, ?_, ?_, hp2, blk_lt h2⟩
  · rw [h7 _ (by show i * 2 < L.length * 2; omega)]
    have := flat_get PC.ptrs 2 ptrs_length 0 (by omega) L i
    simp only [Nat.add_zero] at this
    show (L.flatMap PC.ptrs)[i * 2]? = _
    rw [this, List.getElem?_eq_getElem hi]; simp [hp2]
  · rw [h7 _ (by show i * 2 + 1 < L.length * 2; omega)]
    show (L.flatMap PC.ptrs)[i * 2 + 1]? = _
    rw [flat_get PC.ptrs 2 ptrs_length 1 (by omega) L i, List.getElem?_eq_getElem hi]; simp [hp2]

theorem HeapRep.shape {w : World} {hp : Nat} {slv : Value} {L : List PC} (H : HeapRep w ⟨hp, slv, L⟩) : ∃ a cap, slv = .slice a L.length cap ∧ L.length ≤ cap := Row.shape H.row

theorem mayO_held {o : O} (hm : mayO o = true) (hh : held o = true) : 0 ≤ o.n ∧ o.n ≤ 40000 ∧ 0 ≤ o.pos ∧ o.pos ≤ 40000 ∧ 0 ≤ o.len ∧ o.len ≤ 40000 := by
  obtain ⟨k, ex, n, a, l, s⟩ := o
  simp only [held, Bool.or_eq_true, beq_iff_eq] at hh
  simp only [mayO, Bool.and_eq_true, eqO_iff, bareO, O.nil] at hm
  obtain ⟨h1, h2⟩ := hm
  rcases hh with (rfl | rfl) | rfl <;> simp at h1 h2 ⊢ <;> omega

set_option maxHeartbeats 1000000 in
theorem hmay_any (h : HS) (o : O) (w : World) (H : HeapRep w h) :
   Calls Try.prog 47 #[ptr h.hp, o.val] w fun e w' => e = .returned (.bool (mayH h.l o)) ∧ Chg NoB w w' := by
  obtain ⟨hp, slv, L⟩ := h
  obtain ⟨k, ex, n, a, l, s⟩ := o
  have hl := blk_lt H.head
  by_cases hm : mayO ⟨k, ex, n, a, l, s⟩ = false
  · have hf : mayH (HS.l ⟨hp, slv, L⟩) ⟨k, ex, n, a, l, s⟩ = false := by simp [mayH, hm]
    rw [hf]
    go_enter Try.func47, Try.ntmps47
    go_wp2_with fail
    refine (may_any ⟨k, ex, n, a, l, s⟩ _).mono ?_
    rintro e w1 ⟨rfl, hb1⟩
    go_wp2
    go_ret
    exact ⟨rfl, ((Chg.refl _ _).alloc _).pure hb1⟩
  simp only [Bool.not_eq_false] at hm
  by_cases hh : held ⟨k, ex, n, a, l, s⟩ = false
  · have hf : mayH (HS.l ⟨hp, slv, L⟩) ⟨k, ex, n, a, l, s⟩ = true := by simp [mayH, hm, hh]
    rw [hf]
    go_enter Try.func47, Try.ntmps47
    go_wp2_with fail
    refine (may_any ⟨k, ex, n, a, l, s⟩ _).mono ?_
    rintro e w1 ⟨rfl, hb1⟩
    have hB := hb1.blk (blk_new w _) id
    have R := Chg.cells (S := NoB) hB id
    have X := Chg.refl NoB w1
    go_wp2_with fail
    refine (held_any ⟨k, ex, n, a, l, s⟩ _).mono ?_
    rintro e w2 ⟨rfl, hb2⟩
    go_wp2
    go_ret
    exact ⟨rfl, (((Chg.refl _ _).alloc _).pure hb1).pure hb2⟩
  simp only [Bool.not_eq_false] at hh
  obtain ⟨n0, n1, a0, a1, l0, l1⟩ := mayO_held hm hh
  simp only at n0 n1 a0 a1 l0 l1
  by_cases hn : (L.length : Int) ≤ n
  · have hf : mayH (HS.l ⟨hp, slv, L⟩) ⟨k, ex, n, a, l, s⟩ = false := by simp [mayH, hm, hh]; omega
    rw [hf]
    obtain ⟨sa, cap, rfl, hc⟩ := H.shape
    go_enter Try.func47, Try.ntmps47
    go_wp2_with fail
    refine (may_any ⟨k, ex, n, a, l, s⟩ _).mono ?_
    rintro e w1 ⟨rfl, hb1⟩
    have hB := hb1.blk (blk_new w _) id
    have H1 := (H.pure ((Chg.refl _ _).alloc _)).pure hb1
    have XW := ((Chg.refl NoB w).alloc _).pure hb1
    clear hb1
    have R := Chg.cells (S := NoB) hB id
    have Rh := Chg.cells (S := NoB) H1.head id
    have X := Chg.refl NoB w1
    go_wp2_with fail
    refine (held_any ⟨k, ex, n, a, l, s⟩ _).mono ?_
    rintro e w2 ⟨rfl, hb2⟩
    have X2 := X.pure hb2
    go_wp2_with fail
    have hd1 : decide ((L.length : Int) ≤ n) = true := by simp; omega
    go_quiet (fail)
    go_wp2
    go_ret
    exact ⟨rfl, (XW.trans X2).drewN _⟩
  have hn' : n.toNat < L.length := by omega
  obtain ⟨g, cap, cur, fz, u, v, rfl, hg, hu, hv, huv, hgl⟩ := H.at' hn'
  have hx : L[n.toNat] ∈ L := List.getElem_mem hn'
  have hval : L[n.toNat].val = .agg #[.pointer u, .pointer v] := by unfold PC.val; rw [huv]
  have K1 : ∀ w, L[n.toNat].ok w → Calls Try.prog 69 #[.agg #[.pointer u, .pointer v]] w fun e w' => e = .returned (.int .i64 L[n.toNat].c.kind) ∧ Chg NoB w w' := fun w h => by rw [← hval]; exact kind_any _ w h
  have K2 : ∀ w, L[n.toNat].ok w → Calls Try.prog 68 #[.agg #[.pointer u, .pointer v]] w fun e w' => e = .returned (.int .i64 L[n.toNat].c.size) ∧ Chg NoB w w' := fun w h => by rw [← hval]; exact size_any _ w h
  have hmay : mayH (HS.l ⟨hp, .slice (some ⟨g, 0, none⟩) L.length cap, L⟩) ⟨k, ex, n, a, l, s⟩ = (decide (L[n.toNat].c.kind = k) && decide (a + l ≤ L[n.toNat].c.size)) := by
    simp [mayH, hm, hh, HS.l, List.getElem?_map, List.getElem?_eq_getElem hn']; intro h; omega
  rw [hmay]
  clear hmay hval huv
  have hA : IntKind.i64.wrap (a + l) = a + l := IntWalk.i64_in _ (by omega)
  have hd1 : decide ((L.length : Int) ≤ n) = false := by simp; omega
  generalize hk : L[n.toNat].c.kind = kk at *
  generalize hz : L[n.toNat].c.size = zz at *
  generalize L[n.toNat] = x at *
  clear hk hz
  by_cases hkk : kk = k
  · subst hkk
    go_enter Try.func47, Try.ntmps47
    go_wp2_with fail
    refine (may_any ⟨kk, ex, n, a, l, s⟩ _).mono ?_
    rintro e w1 ⟨rfl, hb1⟩
    have hB := hb1.blk (blk_new w _) id
    have hg1 := hb1.blk (blk_alloc hg _) id
    have H1 := (H.pure ((Chg.refl _ _).alloc _)).pure hb1
    have XW := ((Chg.refl NoB w).alloc _).pure hb1
    clear hb1
    have R := Chg.cells (S := NoB) hB id
    have Rh := Chg.cells (S := NoB) H1.head id
    have Rg := Chg.cells (S := NoB) hg1 id
    have X := Chg.refl NoB w1
    go_wp2_with fail
    refine (held_any ⟨kk, ex, n, a, l, s⟩ _).mono ?_
    rintro e w2 ⟨rfl, hb2⟩
    have X2 := X.pure hb2
    clear hb2
    go_wp2_with fail
    go_region_held3 (fun w' => Chg NoB w1 w') (first | assumption | (exact Chg.drew (by assumption)) | (exact Chg.pure (by assumption) (by assumption)))
      ((go_at_call 69; refine (K1 _ ((H1.cell _ hx).chg (S := NoB) (by assumption) (fun _ _ e => e))).mono ?_; rintro e w4 ⟨rfl, hb4⟩))
    go_wp2_with fail
    go_region_held3 (fun w' => Chg NoB w1 w') (first | assumption | (exact Chg.drew (by assumption)) | (exact Chg.pure (by assumption) (by assumption)))
      ((go_at_call 68; refine (K2 _ ((H1.cell _ hx).chg (S := NoB) (by assumption) (fun _ _ e => e))).mono ?_; rintro e w4 ⟨rfl, hb4⟩))
    go_wp2
    go_ret
    exact ⟨by simp, XW.trans (by assumption)⟩
  · have hkb : (kk == k) = false := by simpa using hkk
    have hkc : (kk != k) = true := by simpa using hkk
    simp only [hkk, decide_false, Bool.false_and]
    go_enter Try.func47, Try.ntmps47
    go_wp2_with fail
    refine (may_any ⟨k, ex, n, a, l, s⟩ _).mono ?_
    rintro e w1 ⟨rfl, hb1⟩
    have hB := hb1.blk (blk_new w _) id
    have hg1 := hb1.blk (blk_alloc hg _) id
    have H1 := (H.pure ((Chg.refl _ _).alloc _)).pure hb1
    have XW := ((Chg.refl NoB w).alloc _).pure hb1
    clear hb1
    have R := Chg.cells (S := NoB) hB id
    have Rh := Chg.cells (S := NoB) H1.head id
    have Rg := Chg.cells (S := NoB) hg1 id
    have X := Chg.refl NoB w1
    go_wp2_with fail
    refine (held_any ⟨k, ex, n, a, l, s⟩ _).mono ?_
    rintro e w2 ⟨rfl, hb2⟩
    have X2 := X.pure hb2
    clear hb2
    go_wp2_with fail
    go_region_held3 (fun w' => Chg NoB w1 w') (first | assumption | (exact Chg.drew (by assumption)) | (exact Chg.pure (by assumption) (by assumption)))
      ((go_at_call 69; refine (K1 _ ((H1.cell _ hx).chg (S := NoB) (by assumption) (fun _ _ e => e))).mono ?_; rintro e w4 ⟨rfl, hb4⟩))
    go_wp2
    go_ret
    exact ⟨rfl, XW.trans (by assumption)⟩
end Go.Proofs.Ytpgkjgceldleaaa
/- Walks: (*Heap).find. -/
namespace Go.Proofs.Ytpgkjgceldleaaa
open Go.RowKit

theorem findE_zero {L : List C} {o : O} (h : findE L o = 0) : held o = true ∧ mayO o = true ∧ ∃ c, L[o.n.toNat]? = some c ∧ c.kind = o.kind ∧ o.pos + o.len ≤ c.size ∧ o.n < L.length := by
  unfold findE at h
  by_cases hh : held o = false
  · simp [hh] at h
  · simp only [Bool.not_eq_false] at hh
    by_cases hm : mayH L o = false
    · simp [hh, hm] at h
    · simp only [Bool.not_eq_false] at hm
      simp only [mayH, hh, Bool.and_eq_true, Bool.not_true, Bool.false_or, decide_eq_true_eq] at hm
      obtain ⟨h1, h2, h3⟩ := hm
      refine ⟨hh, h1, ?_⟩
      cases hc : L[o.n.toNat]? with
      | none => rw [hc] at h3; simp at h3
      | some c => rw [hc] at h3; simp at h3; exact ⟨c, rfl, h3.1, h3.2, h2⟩

theorem find_bad (h : HS) (o : O) (w : World) (H : HeapRep w h) (hE : findE h.l o ≠ 0) :
   Calls Try.prog 45 #[ptr h.hp, o.val] w fun e w' => e = .returned (.tuple #[.agg #[.pointer none, .pointer none], .int .i64 0, .int .i64 0, .int .i64 (findE h.l o)]) ∧ Chg NoB w w' := by
  obtain ⟨hp, slv, L⟩ := h
  obtain ⟨k, ex, n, a, l, s⟩ := o
  by_cases hh : held ⟨k, ex, n, a, l, s⟩ = false
  · have hf : findE (HS.l ⟨hp, slv, L⟩) ⟨k, ex, n, a, l, s⟩ = 6 := by simp [findE, hh]
    rw [hf]
    clear hf hE
    go_enter Try.func45, Try.ntmps45
    go_wp2_with fail
    refine (held_any ⟨k, ex, n, a, l, s⟩ _).mono ?_
    rintro e w1 ⟨rfl, hb1⟩
    have hB := hb1.blk (blk_new1 w _ _) id
    have XW := (((Chg.refl NoB w).alloc _).alloc _).pure hb1
    have hz := blk_lt hB
    clear hb1
    have R := cells_of hB
    have Z := free_of hB
    go_wp2
    refine bodyPost_ret (v := .tuple #[.agg #[.pointer none, .pointer none], .int .i64 0, .int .i64 0, .int .i64 6]) (by simp [results, Try.results45, go_sem, R, cell_set_at]) rfl ⟨rfl, ?_⟩
    exact (XW.setCell (by simp) _).setCell (by simp) _
  · simp only [Bool.not_eq_false] at hh
    have hm : mayH (HS.l ⟨hp, slv, L⟩) ⟨k, ex, n, a, l, s⟩ = false := by
      cases hm : mayH (HS.l ⟨hp, slv, L⟩) ⟨k, ex, n, a, l, s⟩
      · rfl
      · exact absurd (by simp [findE, hh, hm]) hE
    have hf : findE (HS.l ⟨hp, slv, L⟩) ⟨k, ex, n, a, l, s⟩ = 1 := by simp [findE, hh, hm]
    rw [hf]
    clear hf hE
    go_enter Try.func45, Try.ntmps45
    go_wp2_with fail
    refine (held_any ⟨k, ex, n, a, l, s⟩ _).mono ?_
    rintro e w1 ⟨rfl, hb1⟩
    have hB0 := hb1.blk (blk_alloc (blk_new w _) _) id
    have hB := hb1.blk (blk_new1 w _ _) id
    have H1 := (H.pure (((Chg.refl NoB w).alloc _).alloc _)).pure hb1
    have XW := (((Chg.refl NoB w).alloc _).alloc _).pure hb1
    clear hb1
    have R0 := cells_of hB0
    go_wp2_with fail
    refine (hmay_any ⟨hp, slv, L⟩ ⟨k, ex, n, a, l, s⟩ _ H1).mono ?_
    rintro e w2 ⟨rfl, hb2⟩
    have hB2 := hb2.blk hB id
    have XW2 := XW.pure hb2
    have hz := blk_lt hB2
    clear hb2 R0
    have R := cells_of hB2
    have Z := free_of hB2
    go_wp2
    refine bodyPost_ret (v := .tuple #[.agg #[.pointer none, .pointer none], .int .i64 0, .int .i64 0, .int .i64 1]) (by simp [results, Try.results45, go_sem, R, cell_set_at]) rfl ⟨rfl, ?_⟩
    exact (XW2.setCell (by simp) _).setCell (by simp) _

set_option maxHeartbeats 1000000 in
theorem find_good (h : HS) (o : O) (w : World) (H : HeapRep w h) (hE : findE h.l o = 0) (hn : o.n.toNat < h.L.length) :
   Calls Try.prog 45 #[ptr h.hp, o.val] w fun e w' => e = .returned (.tuple #[h.L[o.n.toNat].val, .int .i64 (atOf o), .int .i64 (lenOf h.L[o.n.toNat].c o), .int .i64 0]) ∧ Chg NoB w w' := by
  obtain ⟨hp, slv, L⟩ := h
  obtain ⟨k, ex, n, a, l, s⟩ := o
  obtain ⟨hh, hm0, c, hc, hck, hcs, hcn⟩ := findE_zero hE
  have hm : mayH (HS.l ⟨hp, slv, L⟩) ⟨k, ex, n, a, l, s⟩ = true := by
    cases hm : mayH (HS.l ⟨hp, slv, L⟩) ⟨k, ex, n, a, l, s⟩
    · simp [findE, hh, hm] at hE
    · rfl
  obtain ⟨n0, -⟩ := mayO_held hm0 hh
  simp only at n0 hn
  have hn1 : n < (L.length : Int) := by omega
  obtain ⟨g, cap, cur, fz, u, v, rfl, hg, hu, hv, huv, hgl⟩ := H.at' hn
  have hx : L[n.toNat] ∈ L := List.getElem_mem hn
  have hval : L[n.toNat].val = .agg #[.pointer u, .pointer v] := by unfold PC.val; rw [huv]
  have K2 : ∀ w, L[n.toNat].ok w → Calls Try.prog 68 #[.agg #[.pointer u, .pointer v]] w fun e w' => e = .returned (.int .i64 L[n.toNat].c.size) ∧ Chg NoB w w' := fun w h => by rw [← hval]; exact size_any _ w h
  rw [hval]
  clear hE hc hcs hck hcn hm0 huv hval
  generalize L[n.toNat] = x at *
  have hne : hp ≠ w.heap.size + 1 ∧ g ≠ w.heap.size + 1 := by have := blk_lt H.head; simp only at this; omega
  have hfoot : ∀ b ∈ HS.foot ⟨hp, .slice (some ⟨g, 0, none⟩) L.length cap, L⟩, ¬ (b = w.heap.size + 1) := fun b hb => by have := H.lt b hb; omega
  by_cases hk : k = 10
  · subst hk
    have hat : atOf ⟨10, ex, n, a, l, s⟩ = 0 := rfl
    have hle : lenOf x.c ⟨10, ex, n, a, l, s⟩ = x.c.size := rfl
    rw [hat, hle]
    clear hat hle
    go_enter Try.func45, Try.ntmps45
    go_wp2_with fail
    refine (held_any ⟨10, ex, n, a, l, s⟩ _).mono ?_
    rintro e w1 ⟨rfl, hb1⟩
    have hB0 := hb1.blk (blk_alloc (blk_new w _) _) id
    have hB := hb1.blk (blk_new1 w _ _) id
    have hg1 := hb1.blk (blk_alloc (blk_alloc hg _) _) id
    have H1 := (H.pure (((Chg.refl NoB w).alloc _).alloc _)).pure hb1
    have XW := (((Chg.refl NoB w).alloc _).alloc _).pure hb1
    clear hb1
    have R0 := cells_of hB0
    go_wp2_with fail
    refine (hmay_any ⟨hp, _, L⟩ ⟨10, ex, n, a, l, s⟩ _ H1).mono ?_
    rintro e w2 ⟨rfl, hb2⟩
    have hB2 := hb2.blk hB id
    have hB02 := hb2.blk hB0 id
    have hg2 := hb2.blk hg1 id
    have H2 := H1.pure hb2
    have XW2 := XW.pure hb2
    have hz := blk_lt hB2
    clear hb2 R0 H1 hB0 hB hg1
    have R := cells_of hB2
    have Z := free_of hB2
    have R0 := cells_of hB02
    have Rh := cells_of H2.head
    have Rg := cells_of hg2
    go_wp2_with fail
    go_region
    clear R Z R0 Rh Rg
    have XW3 := ((XW2.setCell (p := ⟨w.heap.size + 1, 0, none⟩) (by simp) (.pointer u)).setCell (p := ⟨w.heap.size + 1, 1, none⟩) (by simp) (.pointer v)).drew
    have H3 := H2.chg ((((Chg.refl (fun b => b = w.heap.size + 1) w2).setCell (p := ⟨w.heap.size + 1, 0, none⟩) (by simp) (.pointer u)).setCell (p := ⟨w.heap.size + 1, 1, none⟩) (by simp) (.pointer v)).drew) hfoot
    have hB3 := blk_drew (blk_set (blk_set hB2 0 (.pointer u)) 1 (.pointer v))
    simp only [List.setIfInBounds_toArray, List.set_cons_zero, List.set_cons_succ] at hB3
    have hB03 := blk_drew (blk_set_other (blk_set_other hB02 (p := ⟨w.heap.size + 1, 0, none⟩) (by simp) (.pointer u)) (p := ⟨w.heap.size + 1, 1, none⟩) (by simp) (.pointer v))
    generalize hW3 : ((w2.setCell ⟨w.heap.size + 1, 0, none⟩ (.pointer u)).setCell ⟨w.heap.size + 1, 1, none⟩ (.pointer v)).drew = w3 at *
    clear hW3 XW2 H2 hB2 hB02 hg2 hz
    have R := Chg.cells (S := NoB) hB3 id
    have R0 := Chg.cells (S := NoB) hB03 id
    have Z := Chg.free (S := NoB) hB3 id
    have hz := blk_lt hB3
    have X := Chg.refl NoB w3
    go_wp2_with fail
    go_region_with (go_at_call 68; refine (K2 _ ((H3.cell _ hx).chg (S := NoB) (by first | assumption | (simp only [go_sem, X])) (fun _ _ e => e))).mono ?_; rintro e w4 ⟨rfl, hb4⟩; have hb5 := X.drew.trans hb4)
    all_goals
      have hB4 := hb5.blk hB3 id
      have hz4 := blk_lt hB4
      clear R R0 Z hB3 hB03 X hb4 hz
      have R := cells_of hB4
      have Z := free_of hB4
      go_wp2
      refine bodyPost_ret (v := .tuple #[.agg #[.pointer u, .pointer v], .int .i64 0, .int .i64 x.c.size, .int .i64 0]) (by simp [results, Try.results45, go_sem, R, cell_set_at]) rfl ⟨rfl, ?_⟩
      exact ((XW3.trans hb5).setCell (by simp) _).setCell (by simp) _
  · have hat : atOf ⟨k, ex, n, a, l, s⟩ = a := by simp [atOf, hk]
    have hle : lenOf x.c ⟨k, ex, n, a, l, s⟩ = l := by simp [lenOf, hk]
    have hkb : (k == 10) = false := by simpa using hk
    rw [hat, hle]
    clear hat hle
    go_enter Try.func45, Try.ntmps45
    go_wp2_with fail
    refine (held_any ⟨k, ex, n, a, l, s⟩ _).mono ?_
    rintro e w1 ⟨rfl, hb1⟩
    have hB0 := hb1.blk (blk_alloc (blk_new w _) _) id
    have hB := hb1.blk (blk_new1 w _ _) id
    have hg1 := hb1.blk (blk_alloc (blk_alloc hg _) _) id
    have H1 := (H.pure (((Chg.refl NoB w).alloc _).alloc _)).pure hb1
    have XW := (((Chg.refl NoB w).alloc _).alloc _).pure hb1
    clear hb1
    have R0 := cells_of hB0
    go_wp2_with fail
    refine (hmay_any ⟨hp, _, L⟩ ⟨k, ex, n, a, l, s⟩ _ H1).mono ?_
    rintro e w2 ⟨rfl, hb2⟩
    have hB2 := hb2.blk hB id
    have hB02 := hb2.blk hB0 id
    have hg2 := hb2.blk hg1 id
    have H2 := H1.pure hb2
    have XW2 := XW.pure hb2
    have hz := blk_lt hB2
    clear hb2 R0 H1 hB0 hB hg1
    have R := cells_of hB2
    have Z := free_of hB2
    have R0 := cells_of hB02
    have Rh := cells_of H2.head
    have Rg := cells_of hg2
    go_wp2_with fail
    go_region
    clear R Z R0 Rh Rg
    have XW3 := ((XW2.setCell (p := ⟨w.heap.size + 1, 0, none⟩) (by simp) (.pointer u)).setCell (p := ⟨w.heap.size + 1, 1, none⟩) (by simp) (.pointer v)).drew
    have H3 := H2.chg ((((Chg.refl (fun b => b = w.heap.size + 1) w2).setCell (p := ⟨w.heap.size + 1, 0, none⟩) (by simp) (.pointer u)).setCell (p := ⟨w.heap.size + 1, 1, none⟩) (by simp) (.pointer v)).drew) hfoot
    have hB3 := blk_drew (blk_set (blk_set hB2 0 (.pointer u)) 1 (.pointer v))
    simp only [List.setIfInBounds_toArray, List.set_cons_zero, List.set_cons_succ] at hB3
    have hB03 := blk_drew (blk_set_other (blk_set_other hB02 (p := ⟨w.heap.size + 1, 0, none⟩) (by simp) (.pointer u)) (p := ⟨w.heap.size + 1, 1, none⟩) (by simp) (.pointer v))
    generalize hW3 : ((w2.setCell ⟨w.heap.size + 1, 0, none⟩ (.pointer u)).setCell ⟨w.heap.size + 1, 1, none⟩ (.pointer v)).drew = w3 at *
    clear hW3 XW2 H2 hB2 hB02 hg2 hz
    have R := Chg.cells (S := NoB) hB3 id
    have R0 := Chg.cells (S := NoB) hB03 id
    have Z := Chg.free (S := NoB) hB3 id
    have hz := blk_lt hB3
    have X := Chg.refl NoB w3
    go_wp2_with fail
    go_region
    go_wp2
    refine bodyPost_ret (v := .tuple #[.agg #[.pointer u, .pointer v], .int .i64 a, .int .i64 l, .int .i64 0]) (by simp [results, Try.results45, go_sem, R, X, cell_set_at]) rfl ⟨rfl, ?_⟩
    exact ((XW3.drew.setCell (by simp) _).setCell (by simp) _)
end Go.Proofs.Ytpgkjgceldleaaa
/- Walks: Size, Get, Cells, Used. -/
namespace Go.Proofs.Ytpgkjgceldleaaa
open Go.RowKit

/-- What find gives at a good object: the cell, and bounds. -/
theorem findE_good {h : HS} {w : World} (H : HeapRep w h) {o : O} (hE : findE h.l o = 0) : ∃ hn : o.n.toNat < h.L.length, (h.L[o.n.toNat]).ok w ∧ h.L[o.n.toNat] ∈ h.L ∧ h.l[o.n.toNat]? = some (h.L[o.n.toNat]).c ∧
    (h.L[o.n.toNat]).c.kind = o.kind ∧ 0 ≤ atOf o ∧ 0 ≤ lenOf (h.L[o.n.toNat]).c o ∧ atOf o + lenOf (h.L[o.n.toNat]).c o ≤ (h.L[o.n.toNat]).c.size ∧ held o = true := by
  obtain ⟨hh, hm, c, hc, hk, hs, hn⟩ := findE_zero hE
  obtain ⟨n0, n1, a0, a1, l0, l1⟩ := mayO_held hm hh
  have hn' : o.n.toNat < h.L.length := by simp only [HS.l, List.length_map] at hn; omega
  have hx : h.L[o.n.toNat] ∈ h.L := List.getElem_mem hn'
  have hc' : h.l[o.n.toNat]? = some (h.L[o.n.toNat]).c := by simp [HS.l, hn']
  have : c = (h.L[o.n.toNat]).c := by rw [hc'] at hc; exact (Option.some.inj hc).symm
  subst this
  refine ⟨hn', H.cell _ hx, hx, hc', hk, ?_, ?_, ?_, hh⟩ <;> simp only [atOf, lenOf] <;> split <;> omega
theorem le_sum : ∀ (l : List Nat) (x : Nat), x ∈ l → x ≤ l.sum
  | [], _, h => by cases h
  | y :: l, x, h => by
    rcases List.mem_cons.1 h with rfl | h
    · simp
    · have := le_sum l x h; simp; omega
theorem cell_small {h : HS} {w : World} (H : HeapRep w h) {x : PC} (hx : x ∈ h.L) : x.c.size ≤ 40000 := by
  refine Nat.le_trans ?_ H.room
  unfold used
  exact le_sum _ _ (List.mem_map.2 ⟨x.c, List.mem_map.2 ⟨x, hx, rfl⟩, rfl⟩)

theorem wrap_byte (b : UInt8) : wrap64 (b.toNat : Int) = b.toNat := IntWalk.wrap64_in _ (by have := b.toNat_lt; omega)

def sizeH (L : List C) (o : O) : Int × Int :=
  if findE L o ≠ 0 then (0, findE L o) else ((L[o.n.toNat]?).elim 0 (fun c => lenOf c o), 0)

theorem hsize_any (h : HS) (o : O) (w : World) (H : HeapRep w h) :
   Calls Try.prog 84 #[ptr h.hp, o.val] w fun e w' => e = .returned (.tuple #[.int .i64 (sizeH h.l o).1, .int .i64 (sizeH h.l o).2]) ∧ Chg NoB w w' := by
  obtain ⟨hp, slv, L⟩ := h
  obtain ⟨k, ex, n, a, l, s⟩ := o
  by_cases hE : findE (HS.l ⟨hp, slv, L⟩) ⟨k, ex, n, a, l, s⟩ = 0
  · obtain ⟨hn, -, -, hc, -⟩ := findE_good H hE
    have hs : sizeH (HS.l ⟨hp, slv, L⟩) ⟨k, ex, n, a, l, s⟩ = (lenOf L[n.toNat].c ⟨k, ex, n, a, l, s⟩, 0) := by simp only at hc; simp [sizeH, hE, hc]
    rw [hs]
    go_enter Try.func84, Try.ntmps84
    go_wp2_with fail
    refine (find_good ⟨hp, slv, L⟩ ⟨k, ex, n, a, l, s⟩ _ (H.pure ((Chg.refl NoB w).alloc _)) hE hn).mono ?_
    rintro e w1 ⟨rfl, hb1⟩
    have hB0 := hb1.blk (blk_new w _) id
    have H1 := (H.pure ((Chg.refl NoB w).alloc _)).pure hb1
    have XW := ((Chg.refl NoB w).alloc _).pure hb1
    clear hb1
    go_wp2
    go_ret2
    exact ⟨rfl, XW⟩
  · have hs : sizeH (HS.l ⟨hp, slv, L⟩) ⟨k, ex, n, a, l, s⟩ = (0, findE (HS.l ⟨hp, slv, L⟩) ⟨k, ex, n, a, l, s⟩) := by simp [sizeH, hE]
    rw [hs]
    go_enter Try.func84, Try.ntmps84
    go_wp2_with fail
    refine (find_bad ⟨hp, slv, L⟩ ⟨k, ex, n, a, l, s⟩ _ (H.pure ((Chg.refl NoB w).alloc _)) hE).mono ?_
    rintro e w1 ⟨rfl, hb1⟩
    have hB0 := hb1.blk (blk_new w _) id
    have H1 := (H.pure ((Chg.refl NoB w).alloc _)).pure hb1
    have XW := ((Chg.refl NoB w).alloc _).pure hb1
    clear hb1
    go_wp2
    go_ret2
    exact ⟨rfl, XW⟩

set_option maxHeartbeats 1000000 in
theorem get_any (h : HS) (o : O) (i : Int) (w : World) (H : HeapRep w h) :
   Calls Try.prog 22 #[ptr h.hp, o.val, .int .i64 i] w fun e w' => e = .returned (.tuple #[(getH h.l o i).1.val, .int .i64 (getH h.l o i).2]) ∧ Chg NoB w w' := by
  obtain ⟨hp, slv, L⟩ := h
  obtain ⟨k, ex, n, a, l, s⟩ := o
  by_cases hE : findE (HS.l ⟨hp, slv, L⟩) ⟨k, ex, n, a, l, s⟩ ≠ 0
  · have hs : getH (HS.l ⟨hp, slv, L⟩) ⟨k, ex, n, a, l, s⟩ i = (O.nil, findE (HS.l ⟨hp, slv, L⟩) ⟨k, ex, n, a, l, s⟩) := by simp [getH, hE]
    rw [hs]
    have hb : (findE (HS.l ⟨hp, slv, L⟩) ⟨k, ex, n, a, l, s⟩ != 0) = true := by simpa using hE
    have FB := fun w' (H' : HeapRep w' ⟨hp, slv, L⟩) => find_bad ⟨hp, slv, L⟩ ⟨k, ex, n, a, l, s⟩ w' H' hE
    generalize findE (HS.l ⟨hp, slv, L⟩) ⟨k, ex, n, a, l, s⟩ = fe at *
    go_enter Try.func22, Try.ntmps22
    go_wp2_with fail
    refine (FB _ (H.pure (((Chg.refl NoB w).alloc _).alloc _))).mono ?_
    rintro e w1 ⟨rfl, hb1⟩
    have hB0 := hb1.blk (blk_alloc (blk_new w _) _) id
    have hB1 := hb1.blk (blk_new1 w _ _) id
    have H1 := (H.pure (((Chg.refl NoB w).alloc _).alloc _)).pure hb1
    have XW := (((Chg.refl NoB w).alloc _).alloc _).pure hb1
    clear hb1
    have R1 := cells_of hB1
    have Z1 := free_of hB1
    have l1 := blk_lt hB1
    clear FB
    go_wp2
    refine bodyPost_ret (v := .tuple #[O.nil.val, .int .i64 fe]) (by simp [results, Try.results22, go_sem, R1, l1, cell_set_at, O.nil]) rfl ⟨rfl, ?_⟩
    (repeat' (first | with_reducible assumption | with_reducible refine Chg.alloc ?_ _ | with_reducible refine Chg.drew ?_ | with_reducible refine Chg.drewN ?_ _ | with_reducible refine Chg.setCell ?_ (Or.inr ?_) _ | exact Nat.le_refl _ | exact Nat.le_add_right _ _ | (simp; done) | (simp; omega)))
  simp only [ne_eq, Decidable.not_not] at hE
  obtain ⟨hn, hok, hx, hc, hk, hat, hle, hsz, -⟩ := findE_good H hE
  have hsm := cell_small H hx
  have FG := fun w' (H' : HeapRep w' ⟨hp, slv, L⟩) => find_good ⟨hp, slv, L⟩ ⟨k, ex, n, a, l, s⟩ w' H' hE hn
  have hs : getH (HS.l ⟨hp, slv, L⟩) ⟨k, ex, n, a, l, s⟩ i = (if i < 0 ∨ lenOf L[n.toNat].c ⟨k, ex, n, a, l, s⟩ ≤ i then (O.nil, 12) else if L[n.toNat].c.text then (⟨3, false, (L[n.toNat].c.bytes.getD (atOf ⟨k, ex, n, a, l, s⟩ + i).toNat 0).toNat, 0, 0, ⟨#[]⟩⟩, 0) else (L[n.toNat].c.items.getD (atOf ⟨k, ex, n, a, l, s⟩ + i).toNat O.nil, 0)) := by
    simp only at hc; simp [getH, hE, hc]
  rw [hs]
  clear hs hE hc hk
  simp only at hok hx hle hsz hsm FG
  generalize L[n.toNat] = x at *
  generalize atOf ⟨k, ex, n, a, l, s⟩ = p at *
  generalize lenOf x.c ⟨k, ex, n, a, l, s⟩ = z at *
  by_cases hi : i < 0 ∨ z ≤ i
  · rw [if_pos hi]
    obtain ⟨u, v, huv⟩ := x.ptrs_eq
    have hval : x.val = .agg #[.pointer u, .pointer v] := by unfold PC.val; rw [huv]
    rw [hval] at FG
    clear hval huv
    by_cases hi1 : i < 0
    all_goals
      (try have hi2 : z ≤ i := by omega)
      go_enter Try.func22, Try.ntmps22
      go_wp2_with fail
      refine (FG _ (H.pure (((Chg.refl NoB w).alloc _).alloc _))).mono ?_
      rintro e w1 ⟨rfl, hb1⟩
      have hB0 := hb1.blk (blk_alloc (blk_new w _) _) id
      have hB1 := hb1.blk (blk_new1 w _ _) id
      have H1 := (H.pure (((Chg.refl NoB w).alloc _).alloc _)).pure hb1
      have XW := (((Chg.refl NoB w).alloc _).alloc _).pure hb1
      clear hb1
      have R1 := cells_of hB1
      have Z1 := free_of hB1
      have l1 := blk_lt hB1
      clear FG
      go_wp2
      refine bodyPost_ret (v := .tuple #[O.nil.val, .int .i64 12]) (by simp [results, Try.results22, go_sem, R1, l1, cell_set_at, O.nil]) rfl ⟨rfl, ?_⟩
      (repeat' (first | with_reducible assumption | with_reducible refine Chg.alloc ?_ _ | with_reducible refine Chg.drew ?_ | with_reducible refine Chg.drewN ?_ _ | with_reducible refine Chg.setCell ?_ (Or.inr ?_) _ | exact Nat.le_refl _ | exact Nat.le_add_right _ _ | (simp; done) | (simp; omega)))
  rw [if_neg hi]
  have hi0 : 0 ≤ i := by omega
  have hi1 : i < z := by omega
  have hA : IntKind.i64.wrap (p + i) = p + i := IntWalk.i64_in _ (by omega)
  have hj : (p + i).toNat < x.c.size := by omega
  have hj0 : 0 ≤ p + i := by omega
  by_cases ht : x.c.text = true
  · have hval : x.val = .agg #[.pointer none, ptr x.p] := by simp [PC.val, PC.ptrs, ht]
    rw [hval] at FG
    rw [if_pos ht]
    have hj1 : (p + i).toNat < x.c.bytes.length := by simpa [C.size, ht] using hj
    have hj2 : p + i < (x.c.bytes.length : Int) := by omega
    have hg : x.c.bytes.getD (p + i).toNat 0 = x.c.bytes[(p + i).toNat] := by simp [hj1]
    rw [hg]
    clear hg
    obtain ⟨b, hb⟩ : ∃ b, b = x.c.bytes[(p + i).toNat] := ⟨_, rfl⟩
    rw [← hb]
    go_enter Try.func22, Try.ntmps22
    go_wp2_with fail
    refine (FG _ (H.pure (((Chg.refl NoB w).alloc _).alloc _))).mono ?_
    rintro e w1 ⟨rfl, hb1⟩
    have hB0 := hb1.blk (blk_alloc (blk_new w _) _) id
    have hB1 := hb1.blk (blk_new1 w _ _) id
    have H1 := (H.pure (((Chg.refl NoB w).alloc _).alloc _)).pure hb1
    have XW := (((Chg.refl NoB w).alloc _).alloc _).pure hb1
    clear hb1
    have hok1 := H1.cell x hx
    have hhd := hok1.head.1 ht
    obtain ⟨g, cap, cur, fz, hsl, hcur, -, -, -, hby⟩ := hok1.byte ht hj1
    rw [hsl] at hhd
    have Rx := Chg.cells (S := NoB) hhd id
    have lx := blk_lt hhd
    have Rg := Chg.cells (S := NoB) hcur id
    have lg := blk_lt hcur
    have X := Chg.refl NoB w1
    have R1 := cells_of hB1
    have Z1 := free_of hB1
    have l1 := blk_lt hB1
    clear FG
    rw [← hb] at hby
    clear hb
    go_wp2
    refine bodyPost_ret (v := .tuple #[.agg #[.int .i64 3, .bool false, .int .i64 b.toNat, .int .i64 0, .int .i64 0, .string ⟨#[]⟩], .int .i64 0]) (by simp [results, Try.results22, go_sem, R1, l1, cell_set_at, wrap_byte]) rfl ⟨rfl, ?_⟩
    (repeat' (first | with_reducible assumption | with_reducible refine Chg.alloc ?_ _ | with_reducible refine Chg.drew ?_ | with_reducible refine Chg.drewN ?_ _ | with_reducible refine Chg.setCell ?_ (Or.inr ?_) _ | exact Nat.le_refl _ | exact Nat.le_add_right _ _ | (simp; done) | (simp; omega)))
  · have htf : x.c.text = false := by simpa using ht
    have hval : x.val = .agg #[ptr x.p, .pointer none] := by simp [PC.val, PC.ptrs, htf]
    rw [hval] at FG
    rw [if_neg ht]
    have hj1 : (p + i).toNat < x.c.items.length := by simpa [C.size, htf] using hj
    have hj2 : p + i < (x.c.items.length : Int) := by omega
    have hg : x.c.items.getD (p + i).toNat O.nil = x.c.items[(p + i).toNat] := by simp [hj1]
    rw [hg]
    clear hg
    obtain ⟨b, hb⟩ : ∃ b, b = x.c.items[(p + i).toNat] := ⟨_, rfl⟩
    rw [← hb]
    go_enter Try.func22, Try.ntmps22
    go_wp2_with fail
    refine (FG _ (H.pure (((Chg.refl NoB w).alloc _).alloc _))).mono ?_
    rintro e w1 ⟨rfl, hb1⟩
    have hB0 := hb1.blk (blk_alloc (blk_new w _) _) id
    have hB1 := hb1.blk (blk_new1 w _ _) id
    have H1 := (H.pure (((Chg.refl NoB w).alloc _).alloc _)).pure hb1
    have XW := (((Chg.refl NoB w).alloc _).alloc _).pure hb1
    clear hb1
    have hok1 := H1.cell x hx
    have hhd := hok1.head.2 htf
    obtain ⟨g, cap, cur, fz, hsl, hcur, -, -, -, y0, y1, y2, y3, y4, y5⟩ := hok1.item htf hj1
    rw [hsl] at hhd
    have Rx := Chg.cells (S := NoB) hhd id
    have lx := blk_lt hhd
    have Rg := Chg.cells (S := NoB) hcur id
    have lg := blk_lt hcur
    have X := Chg.refl NoB w1
    have R1 := cells_of hB1
    have Z1 := free_of hB1
    have l1 := blk_lt hB1
    clear FG
    rw [← hb] at y0 y1 y2 y3 y4 y5
    clear hb
    go_wp2
    refine bodyPost_ret (v := .tuple #[b.val, .int .i64 0]) (by simp [results, Try.results22, go_sem, R1, l1, cell_set_at]) rfl ⟨rfl, ?_⟩
    (repeat' (first | with_reducible assumption | with_reducible refine Chg.alloc ?_ _ | with_reducible refine Chg.drew ?_ | with_reducible refine Chg.drewN ?_ _ | with_reducible refine Chg.setCell ?_ (Or.inr ?_) _ | exact Nat.le_refl _ | exact Nat.le_add_right _ _ | (simp; done) | (simp; omega)))
end Go.Proofs.Ytpgkjgceldleaaa
