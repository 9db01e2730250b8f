/- Base, Obj, May, Heap, Hup, Str, Hnul, Hr1, Hr2, Hr3, Hg -/
import Derived.WalkKit
import Derived.WalkSpells
import Derived.WalkLawsBesides
import Derived.Deep.RegionHeld3
import Derived.BigQuiet
import Derived.Deep.QuietTactic
import Derived.Test.YtgahapnjlngebaaProg
import Derived.Lib.Hide
/- Plain facts about worlds that change at some blocks only: no function of the program in sight. -/
namespace Go.Proofs.Ytgahapnjlngebaa
open Go.RowKit

/-- From w to w' only blocks in S, and new ones, may have turned. -/
structure Chg (S : Nat → Prop) (w w' : World) : Prop where
  os : w'.os = w.os
  tape : w'.tape = w.tape
  output : w'.output = w.output
  size : w.heap.size ≤ w'.heap.size
  block : ∀ k, k < w.heap.size → ¬ S k → w'.heap[k]? = w.heap[k]?

abbrev NoB : Nat → Prop := fun _ => False

theorem Chg.refl (S : Nat → Prop) (w : World) : Chg S w w := ⟨rfl, rfl, rfl, Nat.le_refl _, fun _ _ _ => rfl⟩
theorem Chg.trans' {S S' : Nat → Prop} {a b c : World} (h : Chg S a b) (k : Chg S' b c) (hS : ∀ i, i < a.heap.size → S' i → S i) : Chg S a c :=
  ⟨k.os.trans h.os, k.tape.trans h.tape, k.output.trans h.output, Nat.le_trans h.size k.size,
    fun i hi hn => (k.block i (Nat.lt_of_lt_of_le hi h.size) (fun e => hn (hS i hi e))).trans (h.block i hi hn)⟩
theorem Chg.trans {S : Nat → Prop} {a b c : World} (h : Chg S a b) (k : Chg S b c) : Chg S a c := h.trans' k fun _ _ e => e
theorem Chg.pure {S : Nat → Prop} {a b c : World} (h : Chg S a b) (k : Chg NoB b c) : Chg S a c := h.trans' k fun _ _ e => e.elim
theorem Chg.mono {S S' : Nat → Prop} {a b : World} (h : Chg S a b) (hS : ∀ i, i < a.heap.size → S i → S' i) : Chg S' a b :=
  ⟨h.os, h.tape, h.output, h.size, fun i hi hn => h.block i hi fun e => hn (hS i hi e)⟩
theorem Chg.of_below {w w' : World} (h : Below w.heap.size w w') : Chg NoB w w' := ⟨h.os, h.tape, h.output, h.size, fun i hi _ => h.block i hi⟩
theorem Chg.below {w w' : World} (h : Chg NoB w w') : Below w.heap.size w w' := ⟨h.os, h.tape, h.output, h.size, fun i hi => h.block i hi id⟩
theorem Chg.drew {S : Nat → Prop} {a w : World} (h : Chg S a w) : Chg S a w.drew := ⟨h.os, h.tape, h.output, h.size, h.block⟩
theorem Chg.drewN {S : Nat → Prop} {a w : World} (h : Chg S a w) (n : Nat) : Chg S a (w.drewN n) := ⟨h.os, h.tape, h.output, h.size, h.block⟩
theorem Chg.alloc {S : Nat → Prop} {a w : World} (h : Chg S a w) (o : Obj) : Chg S a (w.alloc o) :=
  h.trans ⟨rfl, rfl, rfl, by simp, fun k hk _ => Below.heap_alloc _ _ _ hk⟩
theorem Chg.setCell {S : Nat → Prop} {a w : World} (h : Chg S a w) {p : Addr} (hp : S p.block ∨ a.heap.size ≤ p.block) (u : Value) : Chg S a (w.setCell p u) :=
  ⟨h.os, h.tape, h.output, by simp only [World.size_setCell]; exact h.size,
    fun k hk hn => by rw [Below.heap_setCell _ _ _ _ (by rintro rfl; rcases hp with hp | hp; exact hn hp; omega)]; exact h.block k hk hn⟩
theorem Chg.grown {S : Nat → Prop} {a w w' : World} {row : Option Nat} (h : Chg S a w) (hg : w.grownBy w' row) (hr : ∀ k, row = some k → S k ∨ a.heap.size ≤ k) : Chg S a w' :=
  ⟨hg.os.trans h.os, hg.tape.trans h.tape, hg.output.trans h.output, Nat.le_trans h.size hg.size,
    fun k hk hn => (hg.block k (Nat.lt_of_lt_of_le hk h.size) (fun e => by rcases hr k e.symm with x | x; exact hn x; omega)).trans (h.block k hk hn)⟩
/-- A block that S does not name stays, whatever it is. -/
theorem Chg.blk {S : Nat → Prop} {w w' : World} (h : Chg S w w') {b : Nat} {x : Obj} (hb : w.heap[b]? = some x) (hS : ¬ S b) : w'.heap[b]? = some x := by
  rw [h.block b (Array.getElem?_eq_some_iff.1 hb).1 hS]; exact hb
theorem blk_lt {w : World} {b : Nat} {x : Obj} (hb : w.heap[b]? = some x) : b < w.heap.size := (Array.getElem?_eq_some_iff.1 hb).1
theorem blk_alloc {w : World} {b : Nat} {x : Obj} (hb : w.heap[b]? = some x) (o : Obj) : (w.alloc o).heap[b]? = some x := by
  rw [Below.heap_alloc _ _ _ (blk_lt hb)]; exact hb
theorem blk_new (w : World) (o : Obj) : (w.alloc o).heap[w.heap.size]? = some o := heap_alloc_new w o
theorem blk_new1 (w : World) (o o' : Obj) : ((w.alloc o).alloc o').heap[w.heap.size + 1]? = some o' := by
  have := heap_alloc_new (w.alloc o) o'; simpa using this
theorem blk_new2 (w : World) (o o' o'' : Obj) : (((w.alloc o).alloc o').alloc o'').heap[w.heap.size + 2]? = some o'' := by
  have := heap_alloc_new ((w.alloc o).alloc o') o''; simpa using this

theorem blk_new3 (w : World) (o o' o'' o3 : Obj) : ((((w.alloc o).alloc o').alloc o'').alloc o3).heap[w.heap.size + 3]? = some o3 := by
  have := heap_alloc_new (((w.alloc o).alloc o').alloc o'') o3; simpa using this

/-- The walk's rule for a block's cells, at every world to come. -/
theorem Chg.cells {S : Nat → Prop} {w : World} {b : Nat} {cs : Array Value} {T : TypeId} {fz : Nat × Nat} (hb : w.heap[b]? = some (.cells cs T fz)) (hS : ¬ S b) :
    ∀ W, Chg S w W → ∀ i, W.cell? ⟨b, i, none⟩ = cs[i]? := fun W h i => by
  have := h.blk hb hS
  simp [World.cell?, this]
theorem Chg.free {S : Nat → Prop} {w : World} {b : Nat} {cs : Array Value} {T : TypeId} (hb : w.heap[b]? = some (.cells cs T (0, 0))) (hS : ¬ S b) :
    ∀ W, Chg S w W → ∀ i, W.frozen? ⟨b, i, none⟩ = false := fun W h i => by
  have := h.blk hb hS
  simp [World.frozen?, this]
theorem cells_of {w : World} {b : Nat} {cs : Array Value} {T : TypeId} {fz : Nat × Nat} (hb : w.heap[b]? = some (.cells cs T fz)) : ∀ i, w.cell? ⟨b, i, none⟩ = cs[i]? := fun i => by
  simp [World.cell?, hb]
theorem free_of {w : World} {b : Nat} {cs : Array Value} {T : TypeId} (hb : w.heap[b]? = some (.cells cs T (0, 0))) : ∀ i, w.frozen? ⟨b, i, none⟩ = false := fun i => by
  simp [World.frozen?, hb]

theorem blk_set {w : World} {b : Nat} {cs : Array Value} {T : TypeId} {fz : Nat × Nat} (hb : w.heap[b]? = some (.cells cs T fz)) (i : Nat) (v : Value) :
    (w.setCell ⟨b, i, none⟩ v).heap[b]? = some (.cells (cs.setIfInBounds i v) T fz) := by
  simp [World.setCell, Array.getElem?_modify, hb]
theorem cell_set_at (w : World) (a : Addr) (v : Value) (h : (w.cell? a).isSome = true) : (w.setCell a v).cell? a = some v := by
  obtain ⟨u, hu⟩ := Option.isSome_iff_exists.1 h
  exact World.cell?_setCell_same w a v hu
theorem blk_drew {w : World} {b : Nat} {x : Obj} (hb : w.heap[b]? = some x) : w.drew.heap[b]? = some x := hb
theorem blk_set_other {w : World} {b : Nat} {x : Obj} (hb : w.heap[b]? = some x) {p : Addr} (h : b ≠ p.block) (v : Value) : (w.setCell p v).heap[b]? = some x := by
  rw [Below.heap_setCell _ _ _ _ h]; exact hb

attribute [go_sem] Chg.alloc Chg.drew Chg.drewN

end Go.Proofs.Ytgahapnjlngebaa
/- Objects as plain data, and what obj.bare, obj.within, obj.May compute of them. -/
namespace Go.Proofs.Ytgahapnjlngebaa
open Go.RowKit

/-- An api.Object. -/
structure O where
  kind : Int
  exec : Bool
  n : Int
  pos : Int
  len : Int
  s : ByteArray
  deriving DecidableEq
def O.cells (o : O) : List Value := [.int .i64 o.kind, .bool o.exec, .int .i64 o.n, .int .i64 o.pos, .int .i64 o.len, .string o.s]
abbrev O.val (o : O) : Value := .agg #[.int .i64 o.kind, .bool o.exec, .int .i64 o.n, .int .i64 o.pos, .int .i64 o.len, .string o.s]
def O.nil : O := ⟨0, false, 0, 0, 0, ⟨#[]⟩⟩

def bareO (o : O) : O :=
  if o.kind = 2 ∨ o.kind = 3 ∨ o.kind = 4 ∨ o.kind = 7 ∨ o.kind = 10 ∨ o.kind = 11 then { o with exec := false, n := 0 }
  else if o.kind = 5 then { o with exec := false, s := ⟨#[]⟩ }
  else if o.kind = 8 ∨ o.kind = 9 then { o with exec := false, n := 0, pos := 0, len := 0 }
  else { o with exec := false }

/-- Are two objects the same? (A name that the walk does not look behind.) -/
def eqO (o p : O) : Bool := decide (o = p)
theorem eqO_iff {o p : O} : eqO o p = true ↔ o = p := by simp [eqO]
theorem eqO_self (o : O) : eqO o o = true := by simp [eqO]
theorem eqO_ne {o p : O} (h : o ≠ p) : eqO o p = false := by simp [eqO, h]

def mayO (o : O) : Bool :=
  eqO (bareO o) { O.nil with kind := o.kind } &&
  if o.kind = 1 ∨ o.kind = 6 then true
  else if o.kind = 2 then decide (0 ≤ o.n) && decide (o.n ≤ 1)
  else if o.kind = 3 then decide (-2147483647 ≤ o.n) && decide (o.n ≤ 2147483647)
  else if o.kind = 4 then decide (-1073741823 ≤ o.n) && decide (o.n ≤ 1073741823)
  else if o.kind = 5 then decide ((o.s.size : Int) ≤ 100)
  else if o.kind = 7 then decide (1 ≤ o.n) && decide (o.n ≤ 200)
  else if o.kind = 8 ∨ o.kind = 9 then (decide (0 ≤ o.n) && decide (o.n ≤ 40000)) && (decide (0 ≤ o.pos) && decide (o.pos ≤ 40000)) && (decide (0 ≤ o.len) && decide (o.len ≤ 40000))
  else if o.kind = 10 then decide (0 ≤ o.n) && decide (o.n ≤ 40000)
  else if o.kind = 11 then decide (1 ≤ o.n) && decide (o.n ≤ 2147483647)
  else false

theorem O.ext_iff' (k k' : Int) (x x' : Bool) (n n' a a' l l' : Int) (s s' : ByteArray) :
    ((⟨k, x, n, a, l, s⟩ : O) = ⟨k', x', n', a', l', s'⟩) ↔ (k = k' ∧ x = x' ∧ n = n' ∧ a = a' ∧ l = l' ∧ s = s') := by
  constructor
  · intro h; cases h; exact ⟨rfl, rfl, rfl, rfl, rfl, rfl⟩
  · rintro ⟨rfl, rfl, rfl, rfl, rfl, rfl⟩; rfl

theorem bytes_toList_eq (s s' : ByteArray) : (s.toList == s'.toList) = decide (s = s') := by
  by_cases h : s = s'
  · subst h; simp
  · have : s.toList ≠ s'.toList := by
      intro e; rw [ByteArray.toList_eq, ByteArray.toList_eq] at e
      exact h (by cases s; cases s'; simp_all [Array.toList_inj])
    simp [h, this]

theorem bareO_eta (o : O) : bareO o = ⟨(bareO o).kind, (bareO o).exec, (bareO o).n, (bareO o).pos, (bareO o).len, (bareO o).s⟩ := rfl

end Go.Proofs.Ytgahapnjlngebaa
/- What obj.May computes. -/
namespace Go.Proofs.Ytgahapnjlngebaa
open Go.RowKit
end Go.Proofs.Ytgahapnjlngebaa
/- The heap as plain data: cells, their places in memory, and what it means that a world holds a heap. -/
namespace Go.Proofs.Ytgahapnjlngebaa
open Go.RowKit

/-- A slice v of n elements (size cells each) whose cells are xs: nil, or a row from the head of a block on. -/
def Row (w : World) (T : TypeId) (size : Nat) (v : Value) (n : Nat) (xs : List Value) : Prop :=
  xs.length = n * size ∧
  ((v = .slice none 0 0 ∧ n = 0) ∨
   ∃ g cap cur fz, v = .slice (some ⟨g, 0, none⟩) n cap ∧ w.heap[g]? = some (.cells cur T fz) ∧ (fz = (0, 0) ∨ cur.size ≤ fz.1) ∧ n ≤ cap ∧ cap ≤ maxLen ∧ cur.size = cap * size ∧ cur.toList.take (n * size) = xs)

/-- A cell of the heap, as plain data. -/
structure C where
  text : Bool
  dict : Bool
  locked : Bool
  items : List O
  bytes : List UInt8
def C.size (c : C) : Nat := if c.text then c.bytes.length else c.items.length
def C.kind (c : C) : Int := if c.text then 8 else if c.dict then 10 else 9

abbrev vu8 (b : UInt8) : Value := .int .u8 b.toNat

/-- A cell and where it lies. -/
structure PC where
  p : Nat
  sl : Value
  c : C
abbrev ptr (b : Nat) : Value := .pointer (some ⟨b, 0, none⟩)
def PC.ptrs (x : PC) : List Value := if x.c.text then [.pointer none, ptr x.p] else [ptr x.p, .pointer none]
def PC.val (x : PC) : Value := .agg x.ptrs.toArray
def PC.foot (x : PC) : List Nat := x.p :: x.sl.ownBlock.toList
def used (L : List C) : Nat := (L.map C.size).sum

/-- A heap in memory. -/
structure HS where
  hp : Nat
  slv : Value
  L : List PC
abbrev HS.l (h : HS) : List C := h.L.map PC.c
def HS.foot (h : HS) : List Nat := h.hp :: (h.slv.ownBlock.toList ++ h.L.flatMap PC.foot)
/-! ### Rows -/
theorem Row.shape {w : World} {T : TypeId} {size : Nat} {v : Value} {n : Nat} {xs : List Value} (h : Row w T size v n xs) : ∃ a cap, v = .slice a n cap ∧ (n ≤ cap) := by
  rcases h.2 with ⟨rfl, rfl⟩ | ⟨g, cap, cur, fz, rfl, _, _, h1, _⟩
  · exact ⟨none, 0, rfl, Nat.le_refl _⟩
  · exact ⟨_, _, rfl, h1⟩
theorem Row.some' {w : World} {T : TypeId} {size : Nat} {v : Value} {n : Nat} {xs : List Value} (h : Row w T size v n xs) (hn : 0 < n) :
    ∃ g cap cur fz, v = .slice (some ⟨g, 0, none⟩) n cap ∧ w.heap[g]? = some (.cells cur T fz) ∧ (fz = (0, 0) ∨ cur.size ≤ fz.1) ∧ n ≤ cap ∧ cap ≤ maxLen ∧ cur.size = cap * size ∧ (∀ i, i < n * size → cur[i]? = xs[i]?) := by
  rcases h.2 with ⟨_, rfl⟩ | ⟨g, cap, cur, fz, h1, h2, h3, h4, h5, h6, h7⟩
  · omega
  · refine ⟨g, cap, cur, fz, h1, h2, h3, h4, h5, h6, fun i hi => ?_⟩
    rw [← h7, List.getElem?_take, if_pos hi]; simp
theorem Row.chg {w w' : World} {S : Nat → Prop} {T : TypeId} {size : Nat} {v : Value} {n : Nat} {xs : List Value} (h : Row w T size v n xs) (hc : Chg S w w') (hS : ∀ b ∈ v.ownBlock.toList, ¬ S b) : Row w' T size v n xs := by
  refine ⟨h.1, ?_⟩
  rcases h.2 with hn | ⟨g, cap, cur, fz, rfl, h2, rest⟩
  · exact .inl hn
  · exact .inr ⟨g, cap, cur, fz, rfl, hc.blk h2 (hS g (by simp [Value.ownBlock])), rest⟩
theorem Row.lt {w : World} {T : TypeId} {size : Nat} {v : Value} {n : Nat} {xs : List Value} (h : Row w T size v n xs) : ∀ b ∈ v.ownBlock.toList, b < w.heap.size := by
  rcases h.2 with ⟨rfl, _⟩ | ⟨g, cap, cur, fz, rfl, h2, rest⟩
  · simp [Value.ownBlock]
  · intro b hb; simp [Value.ownBlock] at hb; subst hb; exact blk_lt h2
theorem Row.of_owns {w : World} {T : TypeId} {size : Nat} {v : Value} {n : Nat} {xs : List Value} (h : w.ownsRow 0 T size v n xs) : Row w T size v n xs := by
  refine ⟨h.1, ?_⟩
  rcases h.2 with hn | ⟨g, cap, cur, h1, h2, h3, h4, h5, h6, h7⟩
  · exact .inl hn
  · exact .inr ⟨g, cap, cur, _, h1, h3, .inl rfl, h4, h5, h6, h7⟩
theorem owns_chg {w w' : World} {S : Nat → Prop} {T : TypeId} {size : Nat} {v : Value} {n : Nat} {xs : List Value} (h : w.ownsRow 0 T size v n xs) (hc : Chg S w w') (hS : ∀ b ∈ v.ownBlock.toList, ¬ S b) : w'.ownsRow 0 T size v n xs := by
  refine ⟨h.1, ?_⟩
  rcases h.2 with hn | ⟨g, cap, cur, rfl, h1, h2, rest⟩
  · exact .inl hn
  · exact .inr ⟨g, cap, cur, rfl, h1, hc.blk h2 (hS g (by simp [Value.ownBlock])), rest⟩
theorem flat_length {α : Type} (f : α → List Value) (k : Nat) (hf : ∀ x, (f x).length = k) : ∀ L : List α, (L.flatMap f).length = L.length * k
  | [] => by simp
  | x :: L => by rw [List.flatMap_cons, List.length_append, hf, flat_length f k hf L, List.length_cons, Nat.succ_mul, Nat.add_comm]
theorem flat_get {α : Type} (f : α → List Value) (k : Nat) (hf : ∀ x, (f x).length = k) (j : Nat) (hj : j < k) : ∀ (L : List α) (i : Nat), (L.flatMap f)[i * k + j]? = (L[i]?).bind fun x => (f x)[j]?
  | [], i => by simp
  | x :: L, 0 => by rw [List.flatMap_cons, List.getElem?_append_left (by rw [hf]; omega)]; simp
  | x :: L, i + 1 => by
    rw [List.flatMap_cons, List.getElem?_append_right (by rw [hf, Nat.succ_mul]; omega), hf, show (i + 1) * k + j - k = i * k + j by rw [Nat.succ_mul]; omega, flat_get f k hf j hj L i]
    simp
theorem ptrs_length (x : PC) : x.ptrs.length = 2 := by unfold PC.ptrs; split <;> rfl
theorem cells_length (o : O) : o.cells.length = 6 := rfl

/-! ### A heap under changes elsewhere -/
/-! ### What a cell's list holds -/
/-! ### What the heap's functions compute -/
def held (o : O) : Bool := o.kind == 9 || o.kind == 8 || o.kind == 10
def mayH (L : List C) (o : O) : Bool :=
  mayO o && (!held o || (decide (o.n < L.length) && match L[o.n.toNat]? with
    | some c => decide (c.kind = o.kind) && decide (o.pos + o.len ≤ c.size)
    | none => false))
def findE (L : List C) (o : O) : Int := if held o = false then 6 else if mayH L o = false then 1 else 0
/-- Where what an object stands for begins, and how many. -/
def atOf (o : O) : Int := if o.kind = 10 then 0 else o.pos
def lenOf (c : C) (o : O) : Int := if o.kind = 10 then c.size else o.len

/-- What Get answers. -/
def getH (L : List C) (o : O) (i : Int) : O × Int :=
  if findE L o ≠ 0 then (O.nil, findE L o)
  else match L[o.n.toNat]? with
    | none => (O.nil, 0)
    | some c =>
      if i < 0 ∨ lenOf c o ≤ i then (O.nil, 12)
      else if c.text then (⟨3, false, (c.bytes.getD (atOf o + i).toNat 0).toNat, 0, 0, ⟨#[]⟩⟩, 0)
      else (c.items.getD (atOf o + i).toNat O.nil, 0)
/-- What Set answers, and leaves. -/
def setH (L : List C) (o : O) (i : Int) (x : O) : List C × Int :=
  if findE L o ≠ 0 then (L, findE L o)
  else match L[o.n.toNat]? with
    | none => (L, 0)
    | some c =>
      if i < 0 ∨ lenOf c o ≤ i then (L, 12)
      else if c.locked then (L, 1)
      else if c.text then
        if x.kind ≠ 3 then (L, 6)
        else if x.n < 0 ∨ 255 < x.n then (L, 2)
        else (L.set o.n.toNat { c with bytes := c.bytes.set (atOf o + i).toNat (UInt8.ofNat x.n.toNat) }, 0)
      else if mayH L x = false then (L, 1)
      else (L.set o.n.toNat { c with items := c.items.set (atOf o + i).toNat x }, 0)
end Go.Proofs.Ytgahapnjlngebaa
/- One cell of a heap is turned in place: plain facts. -/
namespace Go.Proofs.Ytgahapnjlngebaa
open Go.RowKit

theorem foot_set (hp : Nat) (slv : Value) (L : List PC) (N : Nat) (x : PC) (hN : N < L.length) (h1 : x.p = L[N].p) (h2 : x.sl = L[N].sl) :
    HS.foot ⟨hp, slv, L.set N x⟩ = HS.foot ⟨hp, slv, L⟩ := by
  have hx : x.foot = L[N].foot := by simp [PC.foot, h1, h2]
  have : ∀ (L : List PC) (N : Nat) (hN : N < L.length), x.foot = L[N].foot → (L.set N x).flatMap PC.foot = L.flatMap PC.foot := by
    intro L
    induction L with
    | nil => intro N hN; simp at hN
    | cons y L ih =>
      intro N hN hx
      cases N with
      | zero => simp only [List.getElem_cons_zero] at hx; simp [List.set, hx]
      | succ N => simp only [List.getElem_cons_succ] at hx; simp only [List.set, List.flatMap_cons]; rw [ih N (by simpa using hN) hx]
  simp only [HS.foot]
  rw [this L N hN hx]

theorem ptrs_set (L : List PC) (N : Nat) (x : PC) (hN : N < L.length) (hx : x.ptrs = L[N].ptrs) : (L.set N x).flatMap PC.ptrs = L.flatMap PC.ptrs := by
  induction L generalizing N with
  | nil => simp at hN
  | cons y L ih =>
    cases N with
    | zero => simp only [List.getElem_cons_zero] at hx; simp [List.set, hx]
    | succ N => simp only [List.getElem_cons_succ] at hx; simp only [List.set, List.flatMap_cons]; rw [ih N (by simpa using hN) hx]

theorem sum_set (L : List Nat) (N : Nat) (hN : N < L.length) : (L.set N L[N]).sum = L.sum := by simp

theorem Row.set1 {w : World} {T : TypeId} {g cap : Nat} {n : Nat} {xs : List Value} (h : Row w T 1 (.slice (some ⟨g, 0, none⟩) n cap) n xs) {j : Nat} (_hj : j < n) (v : Value) :
    Row (w.setCell ⟨g, j, none⟩ v) T 1 (.slice (some ⟨g, 0, none⟩) n cap) n (xs.set j v) := by
  refine ⟨by simpa using h.1, .inr ?_⟩
  rcases h.2 with ⟨e, _⟩ | ⟨g', cap', cur, fz, e, h2, h3, h4, h5, h6, h7⟩
  · simp at e
  · simp at e
    obtain ⟨rfl, rfl⟩ := e
    refine ⟨g, cap, _, fz, rfl, blk_set h2 j v, ?_, h4, h5, by simpa using h6, ?_⟩
    · simpa using h3
    · rw [← h7, Array.toList_setIfInBounds, List.take_set]

theorem flat_set (f : O → List Value) (hf : ∀ x, (f x).length = 6) (L : List O) (j : Nat) (o : O) (hj : j < L.length) :
    (L.set j o).flatMap f = (((((((L.flatMap f).set (j * 6) ((f o).getD 0 undef)).set (j * 6 + 1) ((f o).getD 1 undef)).set (j * 6 + 2) ((f o).getD 2 undef)).set (j * 6 + 3) ((f o).getD 3 undef)).set (j * 6 + 4) ((f o).getD 4 undef)).set (j * 6 + 5) ((f o).getD 5 undef)) := by
  apply List.ext_getElem?
  intro m
  have hm : m = m / 6 * 6 + m % 6 := by omega
  have hr : m % 6 < 6 := Nat.mod_lt _ (by omega)
  generalize m / 6 = q at *
  generalize m % 6 = r at *
  subst hm
  have hl := flat_length f 6 hf L
  have hfo := hf o
  rw [flat_get f 6 hf r hr]
  simp only [List.getElem?_set, List.length_set, hl]
  by_cases e : j = q
  · subst e
    have e' : j = j := rfl
    have c : r = 0 ∨ r = 1 ∨ r = 2 ∨ r = 3 ∨ r = 4 ∨ r = 5 := by omega
    have hq : ∀ k, k < 6 → j * 6 + k < L.length * 6 := by intro k hk; omega
    have g : ∀ k, k < 6 → (f o)[k]? = some ((f o).getD k undef) := by intro k hk; simp [hfo, hk]
    rw [if_pos e', if_pos hj]
    simp only [Option.bind_some]
    rw [g r hr]
    rcases c with rfl | rfl | rfl | rfl | rfl | rfl
    · simp [show j * 6 < L.length * 6 by omega]
    · simp [hq]
    · simp [hq]
    · simp [hq]
    · simp [hq]
    · simp [hq]
  · have n0 : ¬ j * 6 = q * 6 + r := by omega
    have n1 : ¬ j * 6 + 1 = q * 6 + r := by omega
    have n2 : ¬ j * 6 + 2 = q * 6 + r := by omega
    have n3 : ¬ j * 6 + 3 = q * 6 + r := by omega
    have n4 : ¬ j * 6 + 4 = q * 6 + r := by omega
    have n5 : ¬ j * 6 + 5 = q * 6 + r := by omega
    simp only [e, n0, n1, n2, n3, n4, n5, if_false]
    rw [flat_get f 6 hf r hr]

/-- The world behind the six stores of an object. -/
abbrev put6 (w : World) (g m : Nat) (o : O) : World :=
  (((((w.setCell ⟨g, m, none⟩ (.int .i64 o.kind)).setCell ⟨g, m + 1, none⟩ (.bool o.exec)).setCell ⟨g, m + 2, none⟩ (.int .i64 o.n)).setCell ⟨g, m + 3, none⟩ (.int .i64 o.pos)).setCell ⟨g, m + 4, none⟩ (.int .i64 o.len)).setCell ⟨g, m + 5, none⟩ (.string o.s)

theorem Row.set6 {w : World} {T : TypeId} {g cap : Nat} {L : List O} (h : Row w T 6 (.slice (some ⟨g, 0, none⟩) L.length cap) L.length (L.flatMap O.cells)) {j : Nat} (hj : j < L.length) (o : O) :
    Row (put6 w g (j * 6) o) T 6 (.slice (some ⟨g, 0, none⟩) L.length cap) L.length ((L.set j o).flatMap O.cells) := by
  refine ⟨by rw [flat_length O.cells 6 cells_length]; simp, .inr ?_⟩
  rcases h.2 with ⟨e, _⟩ | ⟨g', cap', cur, fz, e, h2, h3, h4, h5, h6, h7⟩
  · simp at e
  · simp at e
    obtain ⟨rfl, rfl⟩ := e
    refine ⟨g, cap, _, fz, rfl, blk_set (blk_set (blk_set (blk_set (blk_set (blk_set h2 _ _) _ _) _ _) _ _) _ _) _ _, ?_, h4, h5, by simpa using h6, ?_⟩
    · simpa using h3
    · rw [flat_set O.cells cells_length L j o hj, ← h7]
      simp only [Array.toList_setIfInBounds, List.take_set]
      rfl

theorem Chg.one {S : Nat → Prop} {a w : World} (h : Chg S a w) {p : Addr} (hp : S p.block) (u : Value) : Chg S a (w.setCell p u) := h.setCell (.inl hp) u

end Go.Proofs.Ytgahapnjlngebaa
/- A string made into bytes: what the world becomes. -/
namespace Go.Proofs.Ytgahapnjlngebaa
open Go.RowKit
theorem Try.underStr : Try.prog.underlying 9 = some .string := by kernel_rfl
theorem Try.underBytes : Try.prog.underlying 35 = some (.slice 5) := by kernel_rfl
theorem Try.underByte : Try.prog.underlying 5 = some (.int .u8) := by kernel_rfl
def strCap (w : World) (s : ByteArray) : Nat := (Question.appendCap s.size 0 5).cut (w.tape w.drawn (Question.appendCap s.size 0 5))
def strCells (w : World) (s : ByteArray) : Array Value := (s.data.map fun b => Value.int .u8 b.toNat) ++ Array.replicate (strCap w s - s.size) (.int .u8 0)
def strW (w : World) (s : ByteArray) : World := (w.drew.alloc (.cells (strCells w s) 5)).freeze ⟨w.heap.size, (strCells w s).size, none⟩ 1
theorem run_str_bytes (s : ByteArray) (w : World) : (convert 9 35 (.string s)).run Try.prog w = .ok (.slice (some ⟨w.heap.size, 0, none⟩) s.size (strCap w s)) (strW w s) := by
  simp only [convert, Sem.run_bind, run_underlying Try.underStr, run_underlying Try.underBytes, run_underlying Try.underByte, Result.andThen_ok, Conv.stringToBytes, run_choose, Question.forced, newRow, run_newObj, Sem.run_pure, markStringish, run_shape, if_false, Bool.false_eq_true]
  have e : (w.drew.alloc (.cells (strCells w s) 5)).shape? w.heap.size = some (5, (strCells w s).size) := by
    have := blk_new w.drew (.cells (strCells w s) 5)
    simp only [World.size_drew] at this
    simp only [World.shape?, this]
  simp only [World.alloc, World.drew, strCells, strCap] at e
  rw [e]
  rfl
theorem strCap_ge (w : World) (s : ByteArray) : s.size ≤ strCap w s := by simp [strCap, Question.cut]
theorem strCap_le (w : World) (s : ByteArray) (h : s.size ≤ maxLen) : strCap w s ≤ maxLen := by
  have hlt := Nat.mod_lt (w.tape w.drawn (Question.appendCap s.size 0 5)) (show 0 < 2 ^ 63 - s.size by simp only [maxLen] at h; omega)
  simp only [strCap, Question.cut, maxLen] at h ⊢
  omega
theorem strCells_size (w : World) (s : ByteArray) : (strCells w s).size = strCap w s := by
  have := strCap_ge w s
  have e : s.data.size = s.size := rfl
  simp [strCells, e]; omega
theorem strW_blk (w : World) (s : ByteArray) : (strW w s).heap[w.heap.size]? = some (.cells (strCells w s) 5 ((strCells w s).size, (strCells w s).size + 1)) := by
  have := blk_new w.drew (.cells (strCells w s) 5)
  simp only [World.size_drew] at this
  simp only [strW, World.freeze, Nat.succ_ne_zero, if_false, Array.getElem?_modify, if_true, this, Option.map_some]
  simp
theorem strW_chg (w : World) (s : ByteArray) : Chg NoB w (strW w s) := by
  refine ⟨rfl, rfl, rfl, by simp [strW, World.freeze], fun k hk _ => ?_⟩
  simp only [strW, World.freeze, Nat.succ_ne_zero, if_false, Array.getElem?_modify]
  rw [if_neg (by omega)]
  exact Below.heap_alloc _ _ _ hk
@[go_sem] theorem strW_size (w : World) (s : ByteArray) : (strW w s).heap.size = w.heap.size + 1 := by simp [strW, World.freeze]
theorem strW_row {w W : World} {s : ByteArray} (hs : s.size ≤ 40000) (h : Chg NoB (strW w s) W) : Row W 5 1 (.slice (some ⟨w.heap.size, 0, none⟩) s.size (strCap w s)) s.size (s.toList.map vu8) := by
  have e : s.toList.length = s.size := by rw [ByteArray.toList_eq]; rfl
  refine ⟨by simp [e], .inr ⟨_, _, _, _, rfl, h.blk (strW_blk w s) id, .inr (Nat.le_refl _), strCap_ge w s, strCap_le w s (by unfold maxLen; omega), by rw [strCells_size]; omega, ?_⟩⟩
  simp only [strCells, Array.toList_append, Nat.mul_one, Array.toList_map]
  rw [List.take_append_of_le_length (by simp), ByteArray.toList_eq, List.take_of_length_le (by simp)]
end Go.Proofs.Ytgahapnjlngebaa
/- Walk: heap.nulls. -/
namespace Go.Proofs.Ytgahapnjlngebaa
open Go.RowKit

theorem Hid.mk'' {p : Prop} (h : p) : Hid p := h
def nullO : O := ⟨1, false, 0, 0, 0, ⟨#[]⟩⟩
def zrow (n : Nat) : Array Value := madeCells O.nil.cells.toArray (n * 6)
theorem zrow_toList (n : Nat) : (zrow n).toList = (List.replicate n O.nil).flatMap O.cells := by
  apply List.ext_getElem?
  intro m
  have hm : m = m / 6 * 6 + m % 6 := by omega
  have hr : m % 6 < 6 := Nat.mod_lt _ (by omega)
  have hmod : m % 6 = m % 6 := rfl
  rw [hm, flat_get O.cells 6 cells_length _ hr]
  simp only [List.getElem?_replicate]
  by_cases h : m / 6 < n
  · have h2 : m / 6 * 6 + m % 6 < n * 6 := by omega
    rw [if_pos h]
    simp only [zrow, madeCells, Array.toList_map, Array.toList_range, List.getElem?_map, List.getElem?_range h2, Option.map_some, Option.bind_some]
    have : (m / 6 * 6 + m % 6) % 6 = m % 6 := by omega
    generalize m % 6 = r at *
    simp only [O.nil, O.cells, List.size_toArray, List.length_cons, List.length_nil]
    rw [this]
    have c : r = 0 ∨ r = 1 ∨ r = 2 ∨ r = 3 ∨ r = 4 ∨ r = 5 := by omega
    rcases c with rfl | rfl | rfl | rfl | rfl | rfl <;> rfl
  · rw [if_neg h]
    simp [zrow, madeCells]; omega

theorem flat_set0 (L : List O) (j : Nat) (hj : j < L.length) (o : O) (v : Value) (h : o.cells = L[j].cells.set 0 v) : (L.set j o).flatMap O.cells = (L.flatMap O.cells).set (j * 6) v := by
  induction L generalizing j with
  | nil => simp at hj
  | cons x L ih =>
    cases j with
    | zero =>
      simp only [List.getElem_cons_zero] at h
      simp only [List.set_cons_zero, List.flatMap_cons, h, Nat.zero_mul]
      rw [List.set_append_left _ _ (by simp [cells_length])]
    | succ j =>
      simp only [List.getElem_cons_succ] at h
      simp only [List.set_cons_succ, List.flatMap_cons]
      rw [ih j (by simpa using hj) h, List.set_append_right _ _ (by simp [cells_length]; omega)]
      congr 2
      simp [cells_length]; omega
theorem rep_set (n k : Nat) (hk : k < n) : (List.replicate k nullO ++ List.replicate (n - k) O.nil).set k nullO = List.replicate (k + 1) nullO ++ List.replicate (n - (k + 1)) O.nil := by
  rw [List.set_append_right _ _ (by simp)]
  obtain ⟨m, rfl⟩ : ∃ m, n = k + 1 + m := ⟨n - (k + 1), by omega⟩
  rw [show k + 1 + m - k = m + 1 by omega, show k + 1 + m - (k + 1) = m by omega]
  rw [List.length_replicate, Nat.sub_self, List.replicate_succ (n := m), List.set_cons_zero, List.replicate_succ' (n := k), List.append_assoc, List.singleton_append]

end Go.Proofs.Ytgahapnjlngebaa
/- Walks: heap.held, inside, and the methods of a cell. -/
namespace Go.Proofs.Ytgahapnjlngebaa
open Go.RowKit
end Go.Proofs.Ytgahapnjlngebaa
/- Walks: (*Heap).May. -/
namespace Go.Proofs.Ytgahapnjlngebaa
open Go.RowKit

/-- The place of a cell's two pointers in the row of a heap's cells. -/
theorem PC.ptrs_eq (x : PC) : ∃ u v, x.ptrs = [.pointer u, .pointer v] := by
  unfold PC.ptrs; split <;> exact ⟨_, _, rfl⟩
theorem mayO_held {o : O} (hm : mayO o = true) (hh : held o = true) : 0 ≤ o.n ∧ o.n ≤ 40000 ∧ 0 ≤ o.pos ∧ o.pos ≤ 40000 ∧ 0 ≤ o.len ∧ o.len ≤ 40000 := by
  obtain ⟨k, ex, n, a, l, s⟩ := o
  simp only [held, Bool.or_eq_true, beq_iff_eq] at hh
  simp only [mayO, Bool.and_eq_true, eqO_iff, bareO, O.nil] at hm
  obtain ⟨h1, h2⟩ := hm
  rcases hh with (rfl | rfl) | rfl <;> simp at h1 h2 ⊢ <;> omega

end Go.Proofs.Ytgahapnjlngebaa
/- Walks: (*Heap).find. -/
namespace Go.Proofs.Ytgahapnjlngebaa
open Go.RowKit

theorem findE_zero {L : List C} {o : O} (h : findE L o = 0) : held o = true ∧ mayO o = true ∧ ∃ c, L[o.n.toNat]? = some c ∧ c.kind = o.kind ∧ o.pos + o.len ≤ c.size ∧ o.n < L.length := by
  unfold findE at h
  by_cases hh : held o = false
  · simp [hh] at h
  · simp only [Bool.not_eq_false] at hh
    by_cases hm : mayH L o = false
    · simp [hh, hm] at h
    · simp only [Bool.not_eq_false] at hm
      simp only [mayH, hh, Bool.and_eq_true, Bool.not_true, Bool.false_or, decide_eq_true_eq] at hm
      obtain ⟨h1, h2, h3⟩ := hm
      refine ⟨hh, h1, ?_⟩
      cases hc : L[o.n.toNat]? with
      | none => rw [hc] at h3; simp at h3
      | some c => rw [hc] at h3; simp at h3; exact ⟨c, rfl, h3.1, h3.2, h2⟩

end Go.Proofs.Ytgahapnjlngebaa
/- Walks: Size, Get, Cells, Used. -/
namespace Go.Proofs.Ytgahapnjlngebaa
open Go.RowKit
theorem le_sum : ∀ (l : List Nat) (x : Nat), x ∈ l → x ≤ l.sum
  | [], _, h => by cases h
  | y :: l, x, h => by
    rcases List.mem_cons.1 h with rfl | h
    · simp
    · have := le_sum l x h; simp; omega
theorem wrap_byte (b : UInt8) : wrap64 (b.toNat : Int) = b.toNat := IntWalk.wrap64_in _ (by have := b.toNat_lt; omega)

def sizeH (L : List C) (o : O) : Int × Int :=
  if findE L o ≠ 0 then (0, findE L o) else ((L[o.n.toNat]?).elim 0 (fun c => lenOf c o), 0)

end Go.Proofs.Ytgahapnjlngebaa
