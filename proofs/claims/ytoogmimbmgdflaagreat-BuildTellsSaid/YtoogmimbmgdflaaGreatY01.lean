/- Parts of the proof: Base, Obj, Lsh, Heap, Hup, Rnd, Opp, Ope, Hr1, Tch, Lsl, May, Obx. -/
import Derived.WalkKit
import Derived.WalkSpells
import Derived.WalkLawsBesides
import Derived.Deep.RegionHeld3
import Derived.BigQuiet
import Derived.Deep.QuietTactic
import Derived.Test.YtoogmimbmgdflaaGreatProg
import Derived.Test.YtoogmimbmgdflaaGreatRows
import Derived.ProofKit
import Derived.OpenShut
import Derived.ChangeMaps5
import Derived.Lib.Hide
import Derived.RangeFuncCalls
import Derived.RangeFuncNested
import Derived.OwnWalkIn
import Derived.Laws.RangeAny
import Derived.Below
namespace Go.Proofs.YtoogmimbmgdflaaGreat
open Go.RowKit
variable {a c w w' : World} {N b cap g hp i j n : Nat} {cs : Array Value} {T : TypeId} {fz : Nat × Nat} {slv v : Value} {xs : List Value}
section
structure Chg (S : Nat → Prop) (w w' : World) : Prop where
 os : w'.os = w.os
 tape : w'.tape = w.tape
 output : w'.output = w.output
 size : w.heap.size ≤ w'.heap.size
 block : ∀ k, k < w.heap.size → ¬ S k → w'.heap[k]? = w.heap[k]?
abbrev NoB : Nat → Prop := fun _ => False
theorem Chg.refl (S : Nat → Prop) (w : World) : Chg S w w := ⟨rfl, rfl, rfl, Nat.le_refl _, fun _ _ _ => rfl⟩
theorem Chg.trans' {S S' : Nat → Prop} {b : World} (h : Chg S a b) (k : Chg S' b c) (hS : ∀ i, i < a.heap.size → S' i → S i) : Chg S a c :=
 ⟨k.os.trans h.os, k.tape.trans h.tape, k.output.trans h.output, Nat.le_trans h.size k.size,
  fun i hi hn => (k.block i (Nat.lt_of_lt_of_le hi h.size) (fun e => hn (hS i hi e))).trans (h.block i hi hn)⟩
theorem Chg.trans {S : Nat → Prop} {b : World} (h : Chg S a b) (k : Chg S b c) : Chg S a c := h.trans' k fun _ _ e => e
theorem Chg.pure {S : Nat → Prop} {b : World} (h : Chg S a b) (k : Chg NoB b c) : Chg S a c := h.trans' k fun _ _ e => e.elim
theorem Chg.mono {S S' : Nat → Prop} {b : World} (h : Chg S a b) (hS : ∀ i, i < a.heap.size → S i → S' i) : Chg S' a b :=
 ⟨h.os, h.tape, h.output, h.size, fun i hi hn => h.block i hi fun e => hn (hS i hi e)⟩
theorem Chg.below (h : Chg NoB w w') : Below w.heap.size w w' := ⟨h.os, h.tape, h.output, h.size, fun i hi => h.block i hi id⟩
theorem Chg.drew {S : Nat → Prop} (h : Chg S a w) : Chg S a w.drew := ⟨h.os, h.tape, h.output, h.size, h.block⟩
theorem Chg.drewN {S : Nat → Prop} (h : Chg S a w) (n : Nat) : Chg S a (w.drewN n) := ⟨h.os, h.tape, h.output, h.size, h.block⟩
theorem Chg.alloc {S : Nat → Prop} (h : Chg S a w) (o : Obj) : Chg S a (w.alloc o) :=
 h.trans ⟨rfl, rfl, rfl, by simp, fun k hk _ => Below.heap_alloc _ _ _ hk⟩
theorem Chg.setCell {S : Nat → Prop} (h : Chg S a w) {p : Addr} (hp : S p.block ∨ a.heap.size ≤ p.block) (u : Value) : Chg S a (w.setCell p u) :=
 ⟨h.os, h.tape, h.output, by simp only [World.size_setCell]; exact h.size,
  fun k hk hn => by rw [Below.heap_setCell _ _ _ _ (by rintro rfl; rcases hp with hp | hp; exact hn hp; omega)]; exact h.block k hk hn⟩
theorem Chg.grown {S : Nat → Prop} {row : Option Nat} (h : Chg S a w) (hg : w.grownBy w' row) (hr : ∀ k, row = some k → S k ∨ a.heap.size ≤ k) : Chg S a w' :=
 ⟨hg.os.trans h.os, hg.tape.trans h.tape, hg.output.trans h.output, Nat.le_trans h.size hg.size,
  fun k hk hn => (hg.block k (Nat.lt_of_lt_of_le hk h.size) (fun e => by rcases hr k e.symm with x | x; exact hn x; omega)).trans (h.block k hk hn)⟩
theorem Chg.blk {S : Nat → Prop} (h : Chg S w w') {b : Nat} {x : Obj} (hb : w.heap[b]? = some x) (hS : ¬ S b) : w'.heap[b]? = some x := by
 rw [h.block b (Array.getElem?_eq_some_iff.1 hb).1 hS]; exact hb
theorem blk_lt {x : Obj} (hb : w.heap[b]? = some x) : b < w.heap.size := (Array.getElem?_eq_some_iff.1 hb).1
theorem blk_alloc {x : Obj} (hb : w.heap[b]? = some x) (o : Obj) : (w.alloc o).heap[b]? = some x := by
 rw [Below.heap_alloc _ _ _ (blk_lt hb)]; exact hb
theorem blk_new (w : World) (o : Obj) : (w.alloc o).heap[w.heap.size]? = some o := heap_alloc_new w o
theorem blk_new1 (w : World) (o o' : Obj) : ((w.alloc o).alloc o').heap[w.heap.size + 1]? = some o' := by
 have := heap_alloc_new (w.alloc o) o'; simpa using this
theorem Chg.cells {S : Nat → Prop} (hb : w.heap[b]? = some (.cells cs T fz)) (hS : ¬ S b) :
 ∀ W, Chg S w W → ∀ i, W.cell? ⟨b, i, none⟩ = cs[i]? := fun W h i => by
 have := h.blk hb hS; simp [World.cell?, this]
theorem Chg.free {S : Nat → Prop} (hb : w.heap[b]? = some (.cells cs T (0, 0))) (hS : ¬ S b) :
 ∀ W, Chg S w W → ∀ i, W.frozen? ⟨b, i, none⟩ = false := fun W h i => by
 have := h.blk hb hS; simp [World.frozen?, this]
theorem cells_of (hb : w.heap[b]? = some (.cells cs T fz)) : ∀ i, w.cell? ⟨b, i, none⟩ = cs[i]? := fun i => by
 simp [World.cell?, hb]
theorem free_of (hb : w.heap[b]? = some (.cells cs T (0, 0))) : ∀ i, w.frozen? ⟨b, i, none⟩ = false := fun i => by
 simp [World.frozen?, hb]
theorem blk_set (hb : w.heap[b]? = some (.cells cs T fz)) (i : Nat) (v : Value) :
 (w.setCell ⟨b, i, none⟩ v).heap[b]? = some (.cells (cs.setIfInBounds i v) T fz) := by
 simp [World.setCell, Array.getElem?_modify, hb]
theorem cell_set_at (w : World) (a : Addr) (v : Value) (h : (w.cell? a).isSome = true) : (w.setCell a v).cell? a = some v := by
 obtain ⟨u, hu⟩ := Option.isSome_iff_exists.1 h; exact World.cell?_setCell_same w a v hu
theorem blk_drew {x : Obj} (hb : w.heap[b]? = some x) : w.drew.heap[b]? = some x := hb
theorem blk_set_other {x : Obj} (hb : w.heap[b]? = some x) {p : Addr} (h : b ≠ p.block) (v : Value) : (w.setCell p v).heap[b]? = some x := by
 rw [Below.heap_setCell _ _ _ _ h]; exact hb
attribute [go_sem] Chg.alloc Chg.drew Chg.drewN
end
structure O where
 kind : Int
 exec : Bool
 n : Int
 pos : Int
 len : Int
 s : ByteArray
 deriving DecidableEq
def O.cells (o : O) : List Value := [.int .i64 o.kind, .bool o.exec, .int .i64 o.n, .int .i64 o.pos, .int .i64 o.len, .string o.s]
abbrev O.val (o : O) : Value := .agg #[.int .i64 o.kind, .bool o.exec, .int .i64 o.n, .int .i64 o.pos, .int .i64 o.len, .string o.s]
def O.nil : O := ⟨0, false, 0, 0, 0, ⟨#[]⟩⟩
def bareO (o : O) : O :=
 if o.kind = 2 ∨ o.kind = 3 ∨ o.kind = 4 ∨ o.kind = 7 ∨ o.kind = 10 ∨ o.kind = 11 then { o with exec := false, n := 0 }
 else if o.kind = 5 then { o with exec := false, s := ⟨#[]⟩ }
 else if o.kind = 8 ∨ o.kind = 9 then { o with exec := false, n := 0, pos := 0, len := 0 }
 else { o with exec := false }
theorem within_any (v lo hi : Int) (w : World) :
 Calls Tryz.prog 127 #[.int .i64 v, .int .i64 lo, .int .i64 hi] w fun e w' => e = .returned (.bool (decide (lo ≤ v) && decide (v ≤ hi))) ∧ w = w' := by
 by_cases h1 : lo ≤ v <;> by_cases h2 : v ≤ hi
 all_goals
  go_enter Tryz.func127, Tryz.ntmps127
  go_wp2
  go_ret; exact ⟨by simp [h1, h2], rfl⟩
theorem bare_any (o : O) (w : World) :
 Calls Tryz.prog 126 #[o.val] w fun e w' => e = .returned (bareO o).val ∧ Chg NoB w w' := by
 obtain ⟨k, ex, n, a, l, s⟩ := o; go_enter Tryz.func126, Tryz.ntmps126
 go_wp2
 all_goals
  refine bodyPost_ret (v := (bareO ⟨k, ex, n, a, l, s⟩).val) ?_ rfl ⟨rfl, ((Chg.refl _ _).alloc _).alloc _⟩
  simp_all [results, Tryz.results126, go_sem, bareO]
def eqO (o p : O) : Bool := decide (o = p)
theorem eqO_iff {o p : O} : eqO o p = true ↔ o = p := by simp [eqO]
theorem eqO_self (o : O) : eqO o o = true := by simp [eqO]
theorem eqO_ne {o p : O} (h : o ≠ p) : eqO o p = false := by simp [eqO, h]
def mayO (o : O) : Bool :=
 eqO (bareO o) { O.nil with kind := o.kind } &&
 if o.kind = 1 ∨ o.kind = 6 then true
 else if o.kind = 2 then decide (0 ≤ o.n) && decide (o.n ≤ 1)
 else if o.kind = 3 then decide (-2147483647 ≤ o.n) && decide (o.n ≤ 2147483647)
 else if o.kind = 4 then decide (-1073741823 ≤ o.n) && decide (o.n ≤ 1073741823)
 else if o.kind = 5 then decide ((o.s.size : Int) ≤ 100)
 else if o.kind = 7 then decide (1 ≤ o.n) && decide (o.n ≤ 200)
 else if o.kind = 8 ∨ o.kind = 9 then (decide (0 ≤ o.n) && decide (o.n ≤ 40000)) && (decide (0 ≤ o.pos) && decide (o.pos ≤ 40000)) && (decide (0 ≤ o.len) && decide (o.len ≤ 40000))
 else if o.kind = 10 then decide (0 ≤ o.n) && decide (o.n ≤ 40000)
 else if o.kind = 11 then decide (1 ≤ o.n) && decide (o.n ≤ 2147483647)
 else false
theorem O.ext_iff' (k k' : Int) (x x' : Bool) (n n' a a' l l' : Int) (s s' : ByteArray) :
 ((⟨k, x, n, a, l, s⟩ : O) = ⟨k', x', n', a', l', s'⟩) ↔ (k = k' ∧ x = x' ∧ n = n' ∧ a = a' ∧ l = l' ∧ s = s') := by
 constructor
 · intro h; cases h; exact ⟨rfl, rfl, rfl, rfl, rfl, rfl⟩
 · rintro ⟨rfl, rfl, rfl, rfl, rfl, rfl⟩; rfl
theorem bytes_toList_eq (s s' : ByteArray) : (s.toList == s'.toList) = decide (s = s') := by
 by_cases h : s = s'
 · subst h; simp
 · have : s.toList ≠ s'.toList := by
    intro e; rw [ByteArray.toList_eq, ByteArray.toList_eq] at e; exact h (by cases s; cases s'; simp_all [Array.toList_inj])
   simp [h, this]
theorem run_eqO (k k' : Int) (x x' : Bool) (n n' a a' l l' : Int) (s s' : ByteArray) (w : World) :
 (Op.equalIn 10000 39 (.agg #[.int .i64 k, .bool x, .int .i64 n, .int .i64 a, .int .i64 l, .string s]) (.agg #[.int .i64 k', .bool x', .int .i64 n', .int .i64 a', .int .i64 l', .string s'])).run Tryz.prog w =
  .ok (eqO ⟨k, x, n, a, l, s⟩ ⟨k', x', n', a', l', s'⟩) w := by
 have e : (Op.equalIn 10000 39 (.agg #[.int .i64 k, .bool x, .int .i64 n, .int .i64 a, .int .i64 l, .string s]) (.agg #[.int .i64 k', .bool x', .int .i64 n', .int .i64 a', .int .i64 l', .string s'])).run Tryz.prog w =
  .ok ((k == k') && (x == x') && (n == n') && (a == a') && (l == l') && (s.toList == s'.toList)) w := by
  rw [run_equalIn_struct w 9999 39 _ _ (by kernel_rfl) (by kernel_rfl)]; simp [go_sem, Op.eqFields]
  by_cases h1 : k = k' <;> by_cases h2 : x = x' <;> by_cases h3 : n = n' <;> by_cases h4 : a = a' <;> by_cases h5 : l = l' <;> by_cases h6 : s.toList = s'.toList <;> simp [*]
 rw [e, bytes_toList_eq]; unfold eqO; refine congrArg (fun b => Result.ok b w) ?_; simp only [O.ext_iff']
 by_cases h1 : k = k' <;> by_cases h2 : x = x' <;> by_cases h3 : n = n' <;> by_cases h4 : a = a' <;> by_cases h5 : l = l' <;> by_cases h6 : s = s' <;> simp [*]
@[go_sem high] theorem run_eqlO (k k' : Int) (x x' : Bool) (n n' a a' l l' : Int) (s s' : ByteArray) (w : World) :
 (binOp .eql 39 (.agg #[.int .i64 k, .bool x, .int .i64 n, .int .i64 a, .int .i64 l, .string s]) (.agg #[.int .i64 k', .bool x', .int .i64 n', .int .i64 a', .int .i64 l', .string s'])).run Tryz.prog w =
  .ok (.bool (eqO ⟨k, x, n, a, l, s⟩ ⟨k', x', n', a', l', s'⟩)) w := by
 rw [run_eql_struct, run_eqO]; rfl
@[go_sem high] theorem run_neqO (k k' : Int) (x x' : Bool) (n n' a a' l l' : Int) (s s' : ByteArray) (w : World) :
 (binOp .neq 39 (.agg #[.int .i64 k, .bool x, .int .i64 n, .int .i64 a, .int .i64 l, .string s]) (.agg #[.int .i64 k', .bool x', .int .i64 n', .int .i64 a', .int .i64 l', .string s'])).run Tryz.prog w =
  .ok (.bool (!eqO ⟨k, x, n, a, l, s⟩ ⟨k', x', n', a', l', s'⟩)) w := by
 rw [run_neq_struct, run_eqO]; rfl
section
open Go.ChangeShapes Go.WideShapes Go.ChangeAt Go.RowKit
theorem own_knob : ownKnob Tryz.prog.godebug = none := by kernel_rfl
end
def Row (w : World) (T : TypeId) (size : Nat) (v : Value) (n : Nat) (xs : List Value) : Prop :=
 xs.length = n * size ∧
 ((v = .slice none 0 0 ∧ n = 0) ∨
  ∃ g cap cur fz, v = .slice (some ⟨g, 0, none⟩) n cap ∧ w.heap[g]? = some (.cells cur T fz) ∧ (fz = (0, 0) ∨ cur.size ≤ fz.1) ∧ n ≤ cap ∧ cap ≤ maxLen ∧ cur.size = cap * size ∧ cur.toList.take (n * size) = xs)
structure C where
 text : Bool
 dict : Bool
 locked : Bool
 items : List O
 bytes : List UInt8
def C.size (c : C) : Nat := if c.text then c.bytes.length else c.items.length
def C.kind (c : C) : Int := if c.text then 8 else if c.dict then 10 else 9
abbrev vu8 (b : UInt8) : Value := .int .u8 b.toNat
structure PC where
 p : Nat
 sl : Value
 c : C
abbrev ptr (b : Nat) : Value := .pointer (some ⟨b, 0, none⟩)
def PC.ptrs (x : PC) : List Value := if x.c.text then [.pointer none, ptr x.p] else [ptr x.p, .pointer none]
def PC.val (x : PC) : Value := .agg x.ptrs.toArray
def PC.foot (x : PC) : List Nat := x.p :: x.sl.ownBlock.toList
def PC.ok (w : World) (x : PC) : Prop :=
 if x.c.text then
  w.heap[x.p]? = some (.cells #[.bool x.c.locked, x.sl] 120 (0, 0)) ∧ Row w 5 1 x.sl x.c.bytes.length (x.c.bytes.map vu8) ∧ x.c.items = []
 else
  w.heap[x.p]? = some (.cells #[.bool x.c.locked, .bool x.c.dict, x.sl] 122 (0, 0)) ∧ Row w 39 6 x.sl x.c.items.length (x.c.items.flatMap O.cells) ∧ x.c.bytes = []
def used (L : List C) : Nat := (L.map C.size).sum
structure HS where
 hp : Nat
 slv : Value
 L : List PC
abbrev HS.l (h : HS) : List C := h.L.map PC.c
def HS.foot (h : HS) : List Nat := h.hp :: (h.slv.ownBlock.toList ++ h.L.flatMap PC.foot)
structure HeapRep (w : World) (h : HS) : Prop where
 head : w.heap[h.hp]? = some (.cells #[h.slv, .int .i64 (used h.l : Nat)] 60 (0, 0))
 own : w.ownsRow 0 116 2 h.slv h.L.length (h.L.flatMap PC.ptrs)
 cell : ∀ x ∈ h.L, x.ok w
 apart : h.foot.Nodup
 most : h.L.length ≤ 2000
 room : used h.l ≤ 40000
theorem Row.shape {size : Nat} (h : Row w T size v n xs) : ∃ a cap, v = .slice a n cap ∧ (n ≤ cap) := by
 rcases h.2 with ⟨rfl, rfl⟩ | ⟨g, cap, cur, fz, rfl, _, _, h1, _⟩
 · exact ⟨none, 0, rfl, Nat.le_refl _⟩
 · exact ⟨_, _, rfl, h1⟩
theorem Row.some' {size : Nat} (h : Row w T size v n xs) (hn : 0 < n) :
 ∃ g cap cur fz, v = .slice (some ⟨g, 0, none⟩) n cap ∧ w.heap[g]? = some (.cells cur T fz) ∧ (fz = (0, 0) ∨ cur.size ≤ fz.1) ∧ n ≤ cap ∧ cap ≤ maxLen ∧ cur.size = cap * size ∧ (∀ i, i < n * size → cur[i]? = xs[i]?) := by
 rcases h.2 with ⟨_, rfl⟩ | ⟨g, cap, cur, fz, h1, h2, h3, h4, h5, h6, h7⟩
 · omega
 · refine ⟨g, cap, cur, fz, h1, h2, h3, h4, h5, h6, fun i hi => ?_⟩; rw [← h7, List.getElem?_take, if_pos hi]; simp
theorem Row.chg {S : Nat → Prop} {size : Nat} (h : Row w T size v n xs) (hc : Chg S w w') (hS : ∀ b ∈ v.ownBlock.toList, ¬ S b) : Row w' T size v n xs := by
 refine ⟨h.1, ?_⟩
 rcases h.2 with hn | ⟨g, cap, cur, fz, rfl, h2, rest⟩
 · exact .inl hn
 · exact .inr ⟨g, cap, cur, fz, rfl, hc.blk h2 (hS g (by simp [Value.ownBlock])), rest⟩
theorem Row.lt {size : Nat} (h : Row w T size v n xs) : ∀ b ∈ v.ownBlock.toList, b < w.heap.size := by
 rcases h.2 with ⟨rfl, _⟩ | ⟨g, cap, cur, fz, rfl, h2, rest⟩
 · simp [Value.ownBlock]
 · intro b hb; simp [Value.ownBlock] at hb; subst hb; exact blk_lt h2
theorem Row.of_owns {size : Nat} (h : w.ownsRow 0 T size v n xs) : Row w T size v n xs := by
 refine ⟨h.1, ?_⟩
 rcases h.2 with hn | ⟨g, cap, cur, h1, h2, h3, h4, h5, h6, h7⟩
 · exact .inl hn
 · exact .inr ⟨g, cap, cur, _, h1, h3, .inl rfl, h4, h5, h6, h7⟩
theorem owns_chg {S : Nat → Prop} {size : Nat} (h : w.ownsRow 0 T size v n xs) (hc : Chg S w w') (hS : ∀ b ∈ v.ownBlock.toList, ¬ S b) : w'.ownsRow 0 T size v n xs := by
 refine ⟨h.1, ?_⟩
 rcases h.2 with hn | ⟨g, cap, cur, rfl, h1, h2, rest⟩
 · exact .inl hn
 · exact .inr ⟨g, cap, cur, rfl, h1, hc.blk h2 (hS g (by simp [Value.ownBlock])), rest⟩
theorem HeapRep.row {h : HS} (H : HeapRep w h) : Row w 116 2 h.slv h.L.length (h.L.flatMap PC.ptrs) := Row.of_owns H.own
theorem flat_length {α : Type} (f : α → List Value) (k : Nat) (hf : ∀ x, (f x).length = k) : ∀ L : List α, (L.flatMap f).length = L.length * k
 | [] => by simp
 | x :: L => by rw [List.flatMap_cons, List.length_append, hf, flat_length f k hf L, List.length_cons, Nat.succ_mul, Nat.add_comm]
theorem flat_get {α : Type} (f : α → List Value) (k : Nat) (hf : ∀ x, (f x).length = k) (j : Nat) (hj : j < k) : ∀ (L : List α) (i : Nat), (L.flatMap f)[i * k + j]? = (L[i]?).bind fun x => (f x)[j]?
 | [], i => by simp
 | x :: L, 0 => by rw [List.flatMap_cons, List.getElem?_append_left (by rw [hf]; omega)]; simp
 | x :: L, i + 1 => by
  rw [List.flatMap_cons, List.getElem?_append_right (by rw [hf, Nat.succ_mul]; omega), hf, show (i + 1) * k + j - k = i * k + j by rw [Nat.succ_mul]; omega, flat_get f k hf j hj L i]; simp
theorem ptrs_length (x : PC) : x.ptrs.length = 2 := by unfold PC.ptrs; split <;> rfl
theorem cells_length (o : O) : o.cells.length = 6 := rfl
theorem PC.ok.chg {S : Nat → Prop} {x : PC} (h : x.ok w) (hc : Chg S w w') (hS : ∀ b ∈ x.foot, ¬ S b) : x.ok w' := by
 unfold PC.ok at h ⊢; have h1 : ∀ b ∈ x.sl.ownBlock.toList, ¬ S b := fun b hb => hS b (by simp [PC.foot]; exact .inr (by simpa using hb)); have h2 : ¬ S x.p := hS _ (by simp [PC.foot])
 split <;> rename_i ht <;> simp only [ht, if_true, if_false, Bool.false_eq_true] at h
 · exact ⟨hc.blk h.1 h2, h.2.1.chg hc h1, h.2.2⟩
 · exact ⟨hc.blk h.1 h2, h.2.1.chg hc h1, h.2.2⟩
theorem PC.ok.lt {x : PC} (h : x.ok w) : ∀ b ∈ x.foot, b < w.heap.size := by
 intro b hb; simp only [PC.foot, List.mem_cons] at hb; unfold PC.ok at h; split at h
 · rcases hb with rfl | hb
   · exact blk_lt h.1
   · exact h.2.1.lt b hb
 · rcases hb with rfl | hb
   · exact blk_lt h.1
   · exact h.2.1.lt b hb
theorem HeapRep.lt {h : HS} (H : HeapRep w h) : ∀ b ∈ h.foot, b < w.heap.size := by
 intro b hb; simp only [HS.foot, List.mem_cons, List.mem_append, List.mem_flatMap] at hb
 rcases hb with rfl | hb | ⟨x, hx, hb⟩
 · exact blk_lt H.head
 · exact H.row.lt b hb
 · exact (H.cell x hx).lt b hb
theorem HeapRep.chg {S : Nat → Prop} {h : HS} (H : HeapRep w h) (hc : Chg S w w') (hS : ∀ b ∈ h.foot, ¬ S b) : HeapRep w' h where
 head := hc.blk H.head (hS _ (by simp [HS.foot]))
 own := owns_chg H.own hc fun b hb => hS b (by simp only [HS.foot, List.mem_cons, List.mem_append]; exact .inr (.inl hb))
 cell := fun x hx => (H.cell x hx).chg hc fun b hb => hS b (by simp only [HS.foot, List.mem_cons, List.mem_append, List.mem_flatMap]; exact .inr (.inr ⟨x, hx, hb⟩))
 apart := H.apart
 most := H.most
 room := H.room
theorem HeapRep.pure {h : HS} (H : HeapRep w h) (hc : Chg NoB w w') : HeapRep w' h := H.chg hc fun _ _ e => e
theorem PC.ok.item {x : PC} (h : x.ok w) (ht : x.c.text = false) {i : Nat} (hi : i < x.c.items.length) :
 ∃ g cap cur fz, x.sl = .slice (some ⟨g, 0, none⟩) x.c.items.length cap ∧ w.heap[g]? = some (.cells cur 39 fz) ∧ (fz = (0, 0) ∨ cur.size ≤ fz.1) ∧ x.c.items.length * 6 ≤ cur.size ∧ g ∈ x.sl.ownBlock.toList ∧
  cur[i * 6]? = some (.int .i64 x.c.items[i].kind) ∧ cur[i * 6 + 1]? = some (.bool x.c.items[i].exec) ∧ cur[i * 6 + 2]? = some (.int .i64 x.c.items[i].n) ∧
  cur[i * 6 + 3]? = some (.int .i64 x.c.items[i].pos) ∧ cur[i * 6 + 4]? = some (.int .i64 x.c.items[i].len) ∧ cur[i * 6 + 5]? = some (.string x.c.items[i].s) := by
 unfold PC.ok at h; simp only [ht, if_false, Bool.false_eq_true] at h; obtain ⟨g, cap, cur, fz, h1, h2, h3, h4, h5, h6, h7⟩ := h.2.1.some' (by omega)
 have e : ∀ j, j < 6 → cur[i * 6 + j]? = x.c.items[i].cells[j]? := fun j hj => by
  rw [h7 _ (by omega), flat_get O.cells 6 cells_length j hj, List.getElem?_eq_getElem hi]; rfl
 exact ⟨g, cap, cur, fz, h1, h2, h3, by rw [h6]; exact Nat.mul_le_mul_right _ h4, by rw [h1]; simp [Value.ownBlock], e 0 (by omega), e 1 (by omega), e 2 (by omega), e 3 (by omega), e 4 (by omega), e 5 (by omega)⟩
theorem PC.ok.byte {x : PC} (h : x.ok w) (ht : x.c.text = true) {i : Nat} (hi : i < x.c.bytes.length) :
 ∃ g cap cur fz, x.sl = .slice (some ⟨g, 0, none⟩) x.c.bytes.length cap ∧ w.heap[g]? = some (.cells cur 5 fz) ∧ (fz = (0, 0) ∨ cur.size ≤ fz.1) ∧ x.c.bytes.length ≤ cur.size ∧ g ∈ x.sl.ownBlock.toList ∧
  cur[i]? = some (vu8 x.c.bytes[i]) := by
 unfold PC.ok at h; simp only [ht, if_true] at h; obtain ⟨g, cap, cur, fz, h1, h2, h3, h4, h5, h6, h7⟩ := h.2.1.some' (by omega); refine ⟨g, cap, cur, fz, h1, h2, h3, by omega, by rw [h1]; simp [Value.ownBlock], ?_⟩; rw [h7 _ (by omega)]; simp [hi]
theorem PC.ok.head {x : PC} (h : x.ok w) : (x.c.text = true → w.heap[x.p]? = some (.cells #[.bool x.c.locked, x.sl] 120 (0, 0))) ∧ (x.c.text = false → w.heap[x.p]? = some (.cells #[.bool x.c.locked, .bool x.c.dict, x.sl] 122 (0, 0))) := by
 unfold PC.ok at h
 split at h <;> rename_i ht <;> simp only [ht]
 · exact ⟨fun _ => h.1, fun e => by simp at e⟩
 · exact ⟨fun e => by simp at e, fun _ => h.1⟩
def held (o : O) : Bool := o.kind == 9 || o.kind == 8 || o.kind == 10
def mayH (L : List C) (o : O) : Bool :=
 mayO o && (!held o || (decide (o.n < L.length) && match L[o.n.toNat]? with
  | some c => decide (c.kind = o.kind) && decide (o.pos + o.len ≤ c.size)
  | none => false))
def findE (L : List C) (o : O) : Int := if held o = false then 6 else if mayH L o = false then 1 else 0
def atOf (o : O) : Int := if o.kind = 10 then 0 else o.pos
def lenOf (c : C) (o : O) : Int := if o.kind = 10 then c.size else o.len
def getH (L : List C) (o : O) (i : Int) : O × Int :=
 if findE L o ≠ 0 then (O.nil, findE L o)
 else match L[o.n.toNat]? with
  | none => (O.nil, 0)
  | some c =>
   if i < 0 ∨ lenOf c o ≤ i then (O.nil, 12)
   else if c.text then (⟨3, false, (c.bytes.getD (atOf o + i).toNat 0).toNat, 0, 0, ⟨#[]⟩⟩, 0)
   else (c.items.getD (atOf o + i).toNat O.nil, 0)
def setH (L : List C) (o : O) (i : Int) (x : O) : List C × Int :=
 if findE L o ≠ 0 then (L, findE L o)
 else match L[o.n.toNat]? with
  | none => (L, 0)
  | some c =>
   if i < 0 ∨ lenOf c o ≤ i then (L, 12)
   else if c.locked then (L, 1)
   else if c.text then
    if x.kind ≠ 3 then (L, 6)
    else if x.n < 0 ∨ 255 < x.n then (L, 2)
    else (L.set o.n.toNat { c with bytes := c.bytes.set (atOf o + i).toNat (UInt8.ofNat x.n.toNat) }, 0)
   else if mayH L x = false then (L, 1)
   else (L.set o.n.toNat { c with items := c.items.set (atOf o + i).toNat x }, 0)
def Next (w : World) (h : HS) (w' : World) (L : List C) : Prop :=
 ∃ h' : HS, h'.hp = h.hp ∧ h'.l = L ∧ HeapRep w' h' ∧ Chg (· ∈ h.foot) w w' ∧ ∀ b ∈ h'.foot, b ∈ h.foot ∨ w.heap.size ≤ b
theorem foot_set (hp : Nat) (slv : Value) (L : List PC) (N : Nat) (x : PC) (hN : N < L.length) (h1 : x.p = L[N].p) (h2 : x.sl = L[N].sl) :
 HS.foot ⟨hp, slv, L.set N x⟩ = HS.foot ⟨hp, slv, L⟩ := by
 have hx : x.foot = L[N].foot := by simp [PC.foot, h1, h2]
 have : ∀ (L : List PC) (N : Nat) (hN : N < L.length), x.foot = L[N].foot → (L.set N x).flatMap PC.foot = L.flatMap PC.foot := by
  intro L
  induction L with
  | nil => intro N hN; simp at hN
  | cons y L ih =>
   intro N hN hx
   cases N with
   | zero => simp only [List.getElem_cons_zero] at hx; simp [List.set, hx]
   | succ N => simp only [List.getElem_cons_succ] at hx; simp only [List.set, List.flatMap_cons]; rw [ih N (by simpa using hN) hx]
 simp only [HS.foot]; rw [this L N hN hx]
theorem ptrs_set (L : List PC) (N : Nat) (x : PC) (hN : N < L.length) (hx : x.ptrs = L[N].ptrs) : (L.set N x).flatMap PC.ptrs = L.flatMap PC.ptrs := by
 induction L generalizing N with
 | nil => simp at hN
 | cons y L ih =>
  cases N with
  | zero => simp only [List.getElem_cons_zero] at hx; simp [List.set, hx]
  | succ N => simp only [List.getElem_cons_succ] at hx; simp only [List.set, List.flatMap_cons]; rw [ih N (by simpa using hN) hx]
theorem HeapRep.apart_cells {L : List PC} (H : HeapRep w ⟨hp, slv, L⟩) {i j : Nat} (hi : i < L.length) (hj : j < L.length) (hij : i ≠ j) : ∀ b ∈ L[i].foot, b ∉ L[j].foot := by
 have h1 : (L.flatMap PC.foot).Nodup := by
  have := H.apart; simp only [HS.foot, List.nodup_cons, List.nodup_append] at this; exact this.2.2.1
 have h2 := (List.pairwise_flatMap.1 h1).2; intro b hb hb'
 rcases Nat.lt_or_gt_of_ne hij with h | h
 · exact (List.pairwise_iff_getElem.1 h2 i j hi hj h) b hb b hb' rfl
 · exact (List.pairwise_iff_getElem.1 h2 j i hj hi h) b hb' b hb rfl
theorem HeapRep.apart_head {L : List PC} (H : HeapRep w ⟨hp, slv, L⟩) {i : Nat} (hi : i < L.length) : hp ∉ L[i].foot ∧ ∀ b ∈ slv.ownBlock.toList, b ∉ L[i].foot := by
 have := H.apart; simp only [HS.foot, List.nodup_cons, List.nodup_append, List.mem_append, List.mem_flatMap, not_or, not_exists, not_and] at this; refine ⟨fun h => this.1.2 _ (List.getElem_mem hi) h, fun b hb h => ?_⟩; exact this.2.2.2 b hb b ⟨_, List.getElem_mem hi, h⟩ rfl
theorem HeapRep.update {L : List PC} (H : HeapRep w ⟨hp, slv, L⟩) {N : Nat} (hN : N < L.length) (x : PC)
 (hc : Chg (· ∈ L[N].foot) w w') (hok : x.ok w') (h1 : x.p = L[N].p) (h2 : x.sl = L[N].sl) (h3 : x.c.text = L[N].c.text) (h4 : x.c.size = L[N].c.size) :
 HeapRep w' ⟨hp, slv, L.set N x⟩ := by
 have hu : used ((L.set N x).map PC.c) = used (L.map PC.c) := by
  unfold used
  congr 1
  apply List.ext_getElem?
  intro i; simp only [List.getElem?_map, List.getElem?_set]; split
  · rename_i e; subst e
    simp [hN, h4]
  · rfl
 have hptr : x.ptrs = L[N].ptrs := by simp [PC.ptrs, h1, h3]
 obtain ⟨a1, a2⟩ := H.apart_head hN; refine ⟨?_, ?_, ?_, ?_, ?_, ?_⟩
 · have := hc.blk H.head a1; simp only [HS.l] at this ⊢; rw [hu]; exact this
 · have := owns_chg H.own hc a2; simp only [List.length_set] at this ⊢; rw [ptrs_set L N x hN hptr]; exact this
 · intro y hy; obtain ⟨i, hi, rfl⟩ := List.mem_iff_getElem.1 hy; simp only [List.length_set] at hi
   by_cases e : N = i
   · subst e; simpa using hok
   · simp only [List.getElem_set, e, if_false]; exact (H.cell _ (List.getElem_mem hi)).chg hc (fun b hb hb' => H.apart_cells hi hN (fun q => e q.symm) b hb hb')
 · rw [foot_set hp slv L N x hN h1 h2]; exact H.apart
 · have := H.most; simpa using this
 · have := H.room; simp only [HS.l] at this ⊢; rw [hu]; exact this
theorem Row.set1 (h : Row w T 1 (.slice (some ⟨g, 0, none⟩) n cap) n xs) {j : Nat} (_hj : j < n) (v : Value) :
 Row (w.setCell ⟨g, j, none⟩ v) T 1 (.slice (some ⟨g, 0, none⟩) n cap) n (xs.set j v) := by
 refine ⟨by simpa using h.1, .inr ?_⟩
 rcases h.2 with ⟨e, _⟩ | ⟨g', cap', cur, fz, e, h2, h3, h4, h5, h6, h7⟩
 · simp at e
 · simp at e
   obtain ⟨rfl, rfl⟩ := e; refine ⟨g, cap, _, fz, rfl, blk_set h2 j v, ?_, h4, h5, by simpa using h6, ?_⟩
   · simpa using h3
   · rw [← h7, Array.toList_setIfInBounds, List.take_set]
theorem flat_set (f : O → List Value) (hf : ∀ x, (f x).length = 6) (L : List O) (j : Nat) (o : O) (hj : j < L.length) :
 (L.set j o).flatMap f = (((((((L.flatMap f).set (j * 6) ((f o).getD 0 undef)).set (j * 6 + 1) ((f o).getD 1 undef)).set (j * 6 + 2) ((f o).getD 2 undef)).set (j * 6 + 3) ((f o).getD 3 undef)).set (j * 6 + 4) ((f o).getD 4 undef)).set (j * 6 + 5) ((f o).getD 5 undef)) := by
 apply List.ext_getElem?
 intro m
 have hm : m = m / 6 * 6 + m % 6 := by omega
 have hr : m % 6 < 6 := Nat.mod_lt _ (by omega); generalize m / 6 = q at *; generalize m % 6 = r at *; subst hm; have hl := flat_length f 6 hf L; have hfo := hf o; rw [flat_get f 6 hf r hr]; simp only [List.getElem?_set, List.length_set, hl]
 by_cases e : j = q
 · subst e; have e' : j = j := rfl
   have c : r = 0 ∨ r = 1 ∨ r = 2 ∨ r = 3 ∨ r = 4 ∨ r = 5 := by omega
   have hq : ∀ k, k < 6 → j * 6 + k < L.length * 6 := by intro k hk; omega
   have g : ∀ k, k < 6 → (f o)[k]? = some ((f o).getD k undef) := by intro k hk; simp [hfo, hk]
   rw [if_pos e', if_pos hj]; simp only [Option.bind_some]; rw [g r hr]
   rcases c with rfl | rfl | rfl | rfl | rfl | rfl
   · simp [show j * 6 < L.length * 6 by omega]
   · simp [hq]
   · simp [hq]
   · simp [hq]
   · simp [hq]
   · simp [hq]
 · have n0 : ¬ j * 6 = q * 6 + r := by omega
   have n1 : ¬ j * 6 + 1 = q * 6 + r := by omega
   have n2 : ¬ j * 6 + 2 = q * 6 + r := by omega
   have n3 : ¬ j * 6 + 3 = q * 6 + r := by omega
   have n4 : ¬ j * 6 + 4 = q * 6 + r := by omega
   have n5 : ¬ j * 6 + 5 = q * 6 + r := by omega
   simp only [e, n0, n1, n2, n3, n4, n5, if_false]; rw [flat_get f 6 hf r hr]
abbrev put6 (w : World) (g m : Nat) (o : O) : World :=
 (((((w.setCell ⟨g, m, none⟩ (.int .i64 o.kind)).setCell ⟨g, m + 1, none⟩ (.bool o.exec)).setCell ⟨g, m + 2, none⟩ (.int .i64 o.n)).setCell ⟨g, m + 3, none⟩ (.int .i64 o.pos)).setCell ⟨g, m + 4, none⟩ (.int .i64 o.len)).setCell ⟨g, m + 5, none⟩ (.string o.s)
theorem Row.set6 {L : List O} (h : Row w T 6 (.slice (some ⟨g, 0, none⟩) L.length cap) L.length (L.flatMap O.cells)) {j : Nat} (hj : j < L.length) (o : O) :
 Row (put6 w g (j * 6) o) T 6 (.slice (some ⟨g, 0, none⟩) L.length cap) L.length ((L.set j o).flatMap O.cells) := by
 refine ⟨by rw [flat_length O.cells 6 cells_length]; simp, .inr ?_⟩
 rcases h.2 with ⟨e, _⟩ | ⟨g', cap', cur, fz, e, h2, h3, h4, h5, h6, h7⟩
 · simp at e
 · simp at e
   obtain ⟨rfl, rfl⟩ := e; refine ⟨g, cap, _, fz, rfl, blk_set (blk_set (blk_set (blk_set (blk_set (blk_set h2 _ _) _ _) _ _) _ _) _ _) _ _, ?_, h4, h5, by simpa using h6, ?_⟩
   · simpa using h3
   · rw [flat_set O.cells cells_length L j o hj, ← h7]; simp only [Array.toList_setIfInBounds, List.take_set]; rfl
theorem Chg.one {S : Nat → Prop} (h : Chg S a w) {p : Addr} (hp : S p.block) (u : Value) : Chg S a (w.setCell p u) := h.setCell (.inl hp) u
theorem Next.same {h : HS} (H : HeapRep w h) (X : Chg NoB w w') : Next w h w' h.l :=
 ⟨h, rfl, rfl, H.pure X, X.mono (fun _ _ e => e.elim), fun _b hb => .inl hb⟩
theorem Next.byte {L : List PC} (H : HeapRep w ⟨hp, slv, L⟩) (X : Chg NoB w w') {N : Nat} (hN : N < L.length) (ht : L[N].c.text = true) {g cap j : Nat}
 (hsl : L[N].sl = .slice (some ⟨g, 0, none⟩) L[N].c.bytes.length cap) (hj : j < L[N].c.bytes.length) (b : UInt8) :
 Next w ⟨hp, slv, L⟩ (w'.setCell ⟨g, j, none⟩ (vu8 b)) ((L.map PC.c).set N { L[N].c with bytes := L[N].c.bytes.set j b }) := by
 have H' := H.pure X
 have hg : g ∈ L[N].foot := by simp [PC.foot, hsl, Value.ownBlock]
 have hc : Chg (· ∈ L[N].foot) w' (w'.setCell ⟨g, j, none⟩ (vu8 b)) := (Chg.refl _ _).one hg _
 have hin : ∀ b ∈ L[N].foot, b ∈ HS.foot ⟨hp, slv, L⟩ := fun b hb => by simp only [HS.foot, List.mem_cons, List.mem_append, List.mem_flatMap]; exact .inr (.inr ⟨_, List.getElem_mem hN, hb⟩)
 refine ⟨⟨hp, slv, L.set N { L[N] with c := { L[N].c with bytes := L[N].c.bytes.set j b } }⟩, rfl, by simp [HS.l], H'.update hN _ hc ?_ rfl rfl rfl (by simp [C.size]),
  (X.mono (fun _ _ e => e.elim)).trans (hc.mono (fun i _ hi => hin i hi)), fun i hb => .inl ?_⟩
 · have hok := H'.cell _ (List.getElem_mem hN)
   have hp0 : L[N].p ≠ g := by
    intro e; have := H.apart; simp only [HS.foot, List.nodup_cons, List.nodup_append] at this; have h2 := (List.pairwise_flatMap.1 this.2.2.1).1 _ (List.getElem_mem hN); simp only [PC.foot, hsl, Value.ownBlock, Option.toList, List.pairwise_cons, List.mem_singleton] at h2; exact h2.1 g rfl e
   unfold PC.ok at hok ⊢; simp only [ht, if_true] at hok ⊢; obtain ⟨q1, q2, q3⟩ := hok; refine ⟨blk_set_other q1 hp0 _, ?_, q3⟩; rw [hsl] at q2 ⊢; have := q2.set1 hj (vu8 b); simp only [List.length_set]; rw [List.map_set]; exact this
 · rw [foot_set hp slv L N { L[N] with c := { L[N].c with bytes := L[N].c.bytes.set j b } } hN rfl rfl] at hb; exact hb
theorem Next.item {L : List PC} (H : HeapRep w ⟨hp, slv, L⟩) (X : Chg NoB w w') {N : Nat} (hN : N < L.length) (ht : L[N].c.text = false) {g cap j : Nat}
 (hsl : L[N].sl = .slice (some ⟨g, 0, none⟩) L[N].c.items.length cap) (hj : j < L[N].c.items.length) (o : O) :
 Next w ⟨hp, slv, L⟩ (put6 w' g (j * 6) o) ((L.map PC.c).set N { L[N].c with items := L[N].c.items.set j o }) := by
 have H' := H.pure X
 have hg : g ∈ L[N].foot := by simp [PC.foot, hsl, Value.ownBlock]
 have hc : Chg (· ∈ L[N].foot) w' (put6 w' g (j * 6) o) := ((((((Chg.refl _ _).one hg _).one hg _).one hg _).one hg _).one hg _).one hg _
 have hin : ∀ b ∈ L[N].foot, b ∈ HS.foot ⟨hp, slv, L⟩ := fun b hb => by simp only [HS.foot, List.mem_cons, List.mem_append, List.mem_flatMap]; exact .inr (.inr ⟨_, List.getElem_mem hN, hb⟩)
 refine ⟨⟨hp, slv, L.set N { L[N] with c := { L[N].c with items := L[N].c.items.set j o } }⟩, rfl, by simp [HS.l], H'.update hN _ hc ?_ rfl rfl rfl (by simp [C.size]),
  (X.mono (fun _ _ e => e.elim)).trans (hc.mono (fun i _ hi => hin i hi)), fun i hb => .inl ?_⟩
 · have hok := H'.cell _ (List.getElem_mem hN)
   have hp0 : L[N].p ≠ g := by
    intro e; have := H.apart; simp only [HS.foot, List.nodup_cons, List.nodup_append] at this; have h2 := (List.pairwise_flatMap.1 this.2.2.1).1 _ (List.getElem_mem hN); simp only [PC.foot, hsl, Value.ownBlock, Option.toList, List.pairwise_cons, List.mem_singleton] at h2; exact h2.1 g rfl e
   unfold PC.ok at hok ⊢; simp only [ht, if_false, Bool.false_eq_true] at hok ⊢; obtain ⟨q1, q2, q3⟩ := hok; refine ⟨blk_set_other (blk_set_other (blk_set_other (blk_set_other (blk_set_other (blk_set_other q1 hp0 _) hp0 _) hp0 _) hp0 _) hp0 _) hp0 _, ?_, q3⟩; rw [hsl] at q2 ⊢; have := q2.set6 hj o; simp only [List.length_set]; exact this
 · rw [foot_set hp slv L N { L[N] with c := { L[N].c with items := L[N].c.items.set j o } } hN rfl rfl] at hb; exact hb
section
variable {P : Program} {md : Region.Mode} {ops : Array Oper} {Q : Exit → Act → World → Prop}
theorem upon_in {l : Nat} {o : Oper} {a : Act} {K K' : Act → World → Prop} (hK : ∀ a w, K a w → K' a w) : ∀ r : Result Go.Next, o.upon P a K Q r → o.uponIn (Fence.wide.inRound l) 0 P a K' Q r := by
 intro r h
 match r with
 | .ok (.value v) w => exact hK _ _ h
 | .ok .skip w => exact hK _ _ h
 | .ok (.defer d) w => exact hK _ _ h
 | .ok (.enter f args) w =>
  refine ⟨fun h => by simp [Fence.wide] at h, CallsIn.inRound l (callsIn_wide.2 ?_)⟩; refine Calls.mono h ?_; intro e w' hr
  cases e with
  | returned v => exact hK _ _ hr
  | panicked ch => exact hr
  | outgrown => exact hr
 | .ok (.row row args) w =>
  refine ⟨fun h => by simp [Fence.wide] at h, fun c cs _ => ?_⟩; obtain ⟨v, w', hr, hs⟩ := h c cs; exact ⟨v, w', hK _ _ hr, stepsIn_wide.2 hs⟩
 | .halt (.panic v) w => exact h
theorem op_in {l : Nat} {a : Act} {K K' : Act → World → Prop} (hQ : ¬ LetsOut Q) (hd : ∀ (j : Nat) (o : Oper), ops[j]? = some o → ∀ c, o.op ≠ .defer c) (hK : ∀ a w, K a w → K' a w) (h : wpOp P ops Q i K a w) :
 wpOpIn (Fence.wide.inRound l) 0 P ops Q i K' a w := by
 unfold wpOp at h; unfold wpOpIn
 cases ho : ops[i]? with
 | none => rw [ho] at h; exact hK _ _ h
 | some o =>
  rw [ho] at h; simp only at h ⊢; split
  · rename_i hw
    rw [if_pos hw] at h
    rcases h with h | ⟨_, h⟩
    · refine ⟨fun _ _ => trivial, ?_⟩; rw [Fence.inRound_round, Oper.semAt_some l _ _ (hd i o ho)]; exact upon_in hK _ h
    · exact absurd h hQ
  · rename_i hw
    rw [if_neg hw] at h; exact ⟨fun _ _ => trivial, hK _ _ h⟩
theorem any_in {l : Nat} (hQ : ¬ LetsOut Q) (hd : ∀ (j : Nat) (o : Oper), ops[j]? = some o → ∀ c, o.op ≠ .defer c) : ∀ (fuel : Nat) (listed : Array Bool) (a : Act) (w : World), wpAny P md ops Q fuel listed a w → wpAnyIn (Fence.wide.inRound l) 0 P md ops Q fuel listed a w
 | 0, _, _, _, h => h
 | fuel + 1, _, _, _, h => ⟨h.1, fun i hi => op_in hQ hd (fun a' w' h' => any_in hQ hd fuel _ a' w' h') (h.2 i hi)⟩
theorem region_in {l id : Nat} {a : Act} {S : World → Prop} (hm : P.follows .mixedOrders = true) (hQ : ¬ LetsOut Q) (hd : ops.toList.all (fun o => match o.op with | .defer _ => false | _ => true) = true) (hS : S w.drew)
 (h : S w.drew → wpAnyH P .any ops Q S ops.size (Array.replicate ops.size false) a w.drew) : (Code.region id ops true).wpIn (Fence.wide.inRound l) 0 P Q a w := by
 refine wpIn_region_any hm (any_in hQ (fun j o ho c e => ?_) _ _ _ _ (wpAny_of_held _ _ _ _ (h hS)))
 have hmem : o ∈ ops.toList := by
  obtain ⟨hj, rfl⟩ := Array.getElem?_eq_some_iff.1 ho; exact Array.getElem_mem_toList hj
 have := List.all_eq_true.1 hd o hmem; rw [e] at this; simp at this
end
noncomputable def opS : ByteArray :=
 match Tryz.f57.body with
 | some (.seq _ (.seq (.region _ ops _) _)) => (match ops[0]? with
  | some i => (match i.op with
   | .range _ (.const (.string s)) => s
   | _ => ⟨#[]⟩)
  | none => ⟨#[]⟩)
 | _ => ⟨#[]⟩
def toksL : List UInt8 → Nat → List UInt8 → List (Nat × List UInt8)
 | [], _, _ => []
 | c :: r, fam, cur => if c = 10 then toksL r (fam + 1) [] else if c = 32 then (fam, cur) :: toksL r fam [] else toksL r fam (cur ++ [c])
noncomputable def opT : List (Nat × List UInt8) := toksL opS.data.toList 1 []
set_option maxRecDepth 100000 in
theorem opS_size : opS.size = 1164 := by decide +kernel
set_option maxRecDepth 100000 in
theorem opT_length : opT.length = 162 := by decide +kernel
set_option maxRecDepth 100000 in
theorem opS_all : opS.data.toList.all (fun c => decide (c.toNat < 128)) = true := by decide +kernel
theorem opS_ascii (i : Nat) (h : i < opS.size) : opS[i].toNat < 128 := by
 have hm : opS[i] ∈ opS.data.toList := by
  rw [Array.mem_toList_iff]; exact Array.getElem_mem (xs := opS.data) h
 exact of_decide_eq_true (List.all_eq_true.1 opS_all _ hm)
theorem opT_sizes : ∀ p ∈ opT, p.2.length ≤ 100 := by decide +kernel
theorem opT_apart : (opT.map Prod.snd).Nodup := by decide +kernel
theorem hid_ {p : Prop} (h : p) : Hid p := h
def iterAt (w : World) (b : Nat) (s : ByteArray) (pos : Nat) : World := { w with heap := w.heap.setIfInBounds b (.stringIter s pos) }
theorem Chg.iterAt {S : Nat → Prop} (h : Chg S a w) {b : Nat} (hp : S b ∨ a.heap.size ≤ b) (s : ByteArray) (pos : Nat) : Chg S a (iterAt w b s pos) :=
 ⟨h.os, h.tape, h.output, by simp only [Go.Proofs.YtoogmimbmgdflaaGreat.iterAt, Array.size_setIfInBounds]; exact h.size,
  fun k hk hn => by
   rw [Go.Proofs.YtoogmimbmgdflaaGreat.iterAt, Array.getElem?_setIfInBounds_ne (by rintro rfl; rcases hp with hp | hp; exact hn hp; omega)]; exact h.block k hk hn⟩
theorem iterAt_self (h : b < w.heap.size) (s : ByteArray) (pos : Nat) : (iterAt w b s pos).heap[b]? = some (.stringIter s pos) := by
 simp [iterAt, h]
theorem run_next_at {P : Program} (w : World) (b : Nat) (s : ByteArray) (pos : Nat) (ty : TypeId) (hb : w.heap[b]? = some (.stringIter s pos)) (h : pos < s.size) (ha : (s[pos]'h).toNat < 128) :
 (Instr.next (.pointer (some ⟨b, 0, none⟩)) true ty).run P w = .ok (.tuple #[.bool true, .int .i64 pos, .int .i32 (s[pos]'h).toNat]) (iterAt w b s (pos + 1)) := by
 simp [Instr.next, getObj, setObj, Sem.run_bind, Sem.run, hb, Result.andThen, h, decode_ascii s pos h ha, goInt, iterAt]
theorem run_next_over {P : Program} (w : World) (b : Nat) (s : ByteArray) (pos : Nat) (ty : TypeId) (hb : w.heap[b]? = some (.stringIter s pos)) (h : ¬ pos < s.size) :
 (Instr.next (.pointer (some ⟨b, 0, none⟩)) true ty).run P w = .ok (.tuple #[.bool false]) w := by
 simp [Instr.next, getObj, Sem.run, hb, h]
theorem iterPos_at {s : ByteArray} {p : Nat} (h : w.heap[b]? = some (.stringIter s p)) : w.iterPos b = p := by
 simp [World.iterPos, h]
theorem extract_list (N : ByteArray) (a b : Nat) : N.extract a b = ⟨((N.data.toList.drop a).take (b - a)).toArray⟩ := by
 apply ByteArray.ext
 rw [ByteArray.data_extract]; apply Array.toList_inj.1
 rw [Array.toList_extract, List.extract_eq_take_drop]
theorem u8_ne {c : UInt8} (h : c ≠ UInt8.ofNat n) (_hn : n < 256) : ((c.toNat : Int) == (n : Int)) = false := by
 simp only [beq_eq_false_iff_ne, ne_eq]; intro e; apply h
 have e2 : c.toNat = n := by omega
 rw [← e2]; simp
theorem take_snoc (N : ByteArray) (a b : Nat) (h : a ≤ b) (hb : b < N.size) : (N.data.toList.drop a).take (b - a) ++ [N[b]] = (N.data.toList.drop a).take (b + 1 - a) := by
 have hl : b - a < (N.data.toList.drop a).length := by rw [List.length_drop, Array.length_toList]; change b < N.data.size at hb; omega
 rw [show b + 1 - a = b - a + 1 by omega, List.take_succ_eq_append_getElem hl]
 congr 1
 simp [List.getElem_drop, show a + (b - a) = b by omega]
 rfl
theorem toks_lf (r : List UInt8) (fam : Nat) (cur : List UInt8) : toksL (10 :: r) fam cur = toksL r (fam + 1) [] := by rw [toksL, if_pos rfl]
theorem toks_sp (r : List UInt8) (fam : Nat) (cur : List UInt8) : toksL (32 :: r) fam cur = (fam, cur) :: toksL r fam [] := by rw [toksL, if_neg (by decide), if_pos rfl]
theorem toks_ch (c : UInt8) (r : List UInt8) (fam : Nat) (cur : List UInt8) (h1 : c ≠ 10) (h2 : c ≠ 32) : toksL (c :: r) fam cur = toksL r fam (cur ++ [c]) := by rw [toksL, if_neg h1, if_neg h2]
set_option maxRecDepth 100000 in
set_option maxHeartbeats 4000000 in
theorem each_any (fn : Nat) (caps : Array Value) (hcf : ∀ (args : Array Value) (w : World), (callFunc fn args).run Tryz.prog w = .ok (.enter fn args) w) (S : Nat → Prop) (J Q : Nat → World → Prop) (w : World) (hS : ∀ i, S i → i < w.heap.size)
 (hJ : ∀ k a b, J k a → Chg (fun i => w.heap.size ≤ i) a b → J k b)
 (hy : ∀ k (h : k < opT.length) w', J k w' → Chg S w w' → Calls Tryz.prog fn (#[.int .i64 ((k : Int) + 1), .int .i64 opT[k].1, .string ⟨opT[k].2.toArray⟩] ++ caps) w' fun e w2 =>
  Chg S w' w2 ∧ ((e = .returned (.bool true) ∧ J (k + 1) w2) ∨ (e = .returned (.bool false) ∧ Q k w2)))
 (h0 : J 0 w) :
 Calls Tryz.prog 57 #[.func (.func fn) #[] caps] w fun e w' => e = .returned (.tuple #[]) ∧ Chg S w w' ∧ (J opT.length w' ∨ ∃ k, k < opT.length ∧ Q k w') := by
 go_enter Tryz.func57, Tryz.ntmps57
 generalize hV : Value.string _ = V
 obtain rfl : V = .string opS := by rw [← hV]; kernel_rfl
 clear hV; have hsz := opS_size; have hTl := opT_length; have has := hid_ opS_ascii; have hT : Hid (opT = toksL opS.data.toList 1 []) := hid_ rfl; generalize opT = T at *; generalize opS = N at *; go_wp2_with fail
 go_loopw [2, 3, 4] (fun nv fv rv wr => ∃ (pos fam fr : Nat) (done : List (Nat × List UInt8)) (cur : List UInt8), pos ≤ N.size ∧ fr ≤ pos ∧ nv = .int .i64 ((done.length : Int) + 1) ∧ fv = .int .i64 fam ∧ rv = .int .i64 fr ∧
  fam ≤ 1 + pos ∧ cur = (N.data.toList.drop fr).take (pos - fr) ∧ T = done ++ toksL (N.data.toList.drop pos) fam cur ∧ wr.heap[w.heap.size]? = some (.stringIter N pos) ∧ J done.length wr ∧ Chg S w wr)
  (fun _ _ _ wr => N.size - wr.iterPos w.heap.size)
 case atStart => exact ⟨0, 1, 0, [], [], by omega, by omega, rfl, rfl, rfl, by omega, rfl, hT.out, by rw [World.iter]; exact blk_new .., hJ _ _ _ h0 ((Chg.refl _ _).alloc _), (Chg.refl _ _).alloc _⟩
 case round =>
  obtain ⟨pos, fam, fr, done, cur, hp, hfp, rfl, rfl, rfl, hfa, hcur, hTd, hit, hj, X⟩ := hrel; clear hT
  by_cases hlt : pos < N.size
  · have hnx : ∀ ty, (Instr.next (.pointer (some ⟨w.heap.size, 0, none⟩)) true ty).run Tryz.prog wr = _ := fun ty => run_next_at wr w.heap.size N pos ty hit hlt (has.out pos hlt)
    have hcc : (N[pos].toNat : Int) < 128 := by have := has.out pos hlt; omega
    have hdr : N.data.toList.drop pos = N[pos] :: N.data.toList.drop (pos + 1) := List.drop_eq_getElem_cons (by simpa using hlt); have HD := hid_ hdr; clear hdr; have hi2 : (iterAt wr w.heap.size N (pos + 1)).heap[w.heap.size]? = some (.stringIter N (pos + 1)) := iterAt_self (blk_lt hit) _ _; have X2 : Chg S w (iterAt wr w.heap.size N (pos + 1)) := X.iterAt (.inr (Nat.le_refl _)) _ _; have hj2 : J done.length (iterAt wr w.heap.size N (pos + 1)) := hJ _ _ _ hj ((Chg.refl _ _).iterAt (.inl (Nat.le_refl _)) _ _); have HT := hid_ hTd; have HC := hid_ hcur; clear hTd hcur
    by_cases c1 : N[pos] = 10
    · have cz : (N[pos].toNat : Int) = 10 := by rw [c1]; rfl
      generalize (N[pos].toNat : Int) = c at *; subst cz; go_wp2_with fail
      go_roundw
      case rel => exact ⟨pos + 1, fam + 1, pos + 1, done, [], by omega, by omega, rfl, by go_num, by go_num, by omega, by simp, by rw [HT.out, HD.out, c1, toks_lf], hi2, hj2, X2⟩
      case measure => rw [iterPos_at hi2, iterPos_at hit]; omega
    · by_cases c2 : N[pos] = 32
      · have cz : (N[pos].toNat : Int) = 32 := by rw [c2]; rfl
        generalize (N[pos].toNat : Int) = c at *; subst cz
        have hTk : T[done.length]? = some (fam, cur) := by rw [HT.out, HD.out, c2, toks_sp, List.getElem?_append_right (Nat.le_refl _), Nat.sub_self]; rfl
        obtain ⟨hk, hTk⟩ := List.getElem?_eq_some_iff.1 hTk; have HY := hy done.length hk _ hj2 X2; rw [hTk] at HY; simp only at HY
        have hex : (⟨cur.toArray⟩ : ByteArray) = N.extract fr pos := by rw [extract_list, HC.out]
        rw [hex] at HY
        have hkb : (done.length : Int) ≤ 1000 := by omega
        have HK := hid_ hk; have HY := hid_ HY; clear hy hTk hk hex
        go_wp2_with (refine HY.out.mono ?_; rintro e w2 ⟨X3, (⟨rfl, hj3⟩ | ⟨rfl, hq⟩)⟩)
        case roundEnd =>
         have hi3 := X3.blk hi2 (fun h => Nat.lt_irrefl _ (hS _ h)); go_roundw
         case rel => exact ⟨pos + 1, fam, pos + 1, done ++ [(fam, cur)], [], by omega, by omega, by simp, rfl, by go_num, by omega, by simp, by rw [HT.out, HD.out, c2, toks_sp]; simp, hi3, by simpa using hj3, X2.trans X3⟩
         case measure => rw [iterPos_at hi3, iterPos_at hit]; omega
        refine bodyPost_ret (v := .tuple #[]) ?_ rfl ⟨rfl, X2.trans X3, .inr ⟨_, HK.out, hq⟩⟩; simp [results, Tryz.results57, go_sem]
      · have cz : ((N[pos].toNat : Int) == 10) = false := u8_ne (n := 10) c1 (by decide); have cy : ((N[pos].toNat : Int) == 32) = false := u8_ne (n := 32) c2 (by decide); generalize (N[pos].toNat : Int) = c at *; go_wp2_with fail
        go_roundw
        case rel => exact ⟨pos + 1, fam, fr, done, cur ++ [N[pos]], by omega, by omega, rfl, rfl, rfl, by omega, by rw [HC.out, take_snoc N fr pos hfp hlt], by rw [HT.out, HD.out, toks_ch _ _ _ _ c1 c2], hi2, hj2, X2⟩
        case measure => rw [iterPos_at hi2, iterPos_at hit]; omega
  · have hnx : ∀ ty, (Instr.next (.pointer (some ⟨w.heap.size, 0, none⟩)) true ty).run Tryz.prog wr = _ := fun ty => run_next_over wr w.heap.size N pos ty hit hlt
    obtain rfl : pos = N.size := by omega
    go_wp2_with fail
    go_end0; refine ⟨rfl, X, .inl ?_⟩; rw [hTd, List.drop_of_length_le (by simp), toksL, List.append_nil]; exact hj
theorem held_any (o : O) (w : World) :
 Calls Tryz.prog 87 #[o.val] w fun e w' => e = .returned (.bool (held o)) ∧ Chg NoB w w' := by
 obtain ⟨k, ex, n, a, l, s⟩ := o; have Hm : Hid (held ⟨k, ex, n, a, l, s⟩ = (k == 9 || k == 8 || k == 10)) := rfl; go_enter Tryz.func87, Tryz.ntmps87
 go_wp2
 all_goals
  go_ret; refine ⟨?_, (Chg.refl _ _).alloc _⟩; rw [Hm.out]
  simp_all
theorem kind_any (x : PC) (w : World) (h : x.ok w) :
 Calls Tryz.prog 88 #[x.val] w fun e w' => e = .returned (.int .i64 x.c.kind) ∧ Chg NoB w w' := by
 obtain ⟨p, sl, t, d, k, its, bs⟩ := x; unfold PC.ok at h
 cases t <;> simp only [if_true, if_false, Bool.false_eq_true] at h
 · obtain ⟨h1, -⟩ := h; have hl := blk_lt h1; have R := Chg.cells (S := NoB) h1 id; have X := Chg.refl NoB w
   cases d
   all_goals
    go_enter Tryz.func88, Tryz.ntmps88
    simp only [PC.val, PC.ptrs, if_false, Bool.false_eq_true]; go_wp2
    go_ret; exact ⟨rfl, X.alloc _⟩
 · go_enter Tryz.func88, Tryz.ntmps88
   simp only [PC.val, PC.ptrs, if_true]; go_wp2
   go_ret; exact ⟨rfl, (Chg.refl _ _).alloc _⟩
theorem size_any (x : PC) (w : World) (h : x.ok w) :
 Calls Tryz.prog 89 #[x.val] w fun e w' => e = .returned (.int .i64 x.c.size) ∧ Chg NoB w w' := by
 obtain ⟨p, sl, t, d, k, its, bs⟩ := x; unfold PC.ok at h
 cases t <;> simp only [if_true, if_false, Bool.false_eq_true] at h
 all_goals
  obtain ⟨h1, h2, -⟩ := h; obtain ⟨a, cap, rfl, hc⟩ := h2.shape; have hl := blk_lt h1; have R := Chg.cells (S := NoB) h1 id; have X := Chg.refl NoB w; go_enter Tryz.func89, Tryz.ntmps89
  simp only [PC.val, PC.ptrs, if_true, if_false, Bool.false_eq_true]; go_wp2
  go_ret; exact ⟨rfl, X.alloc _⟩
theorem locked_any (x : PC) (w : World) (h : x.ok w) :
 Calls Tryz.prog 90 #[x.val] w fun e w' => e = .returned (.bool x.c.locked) ∧ Chg NoB w w' := by
 obtain ⟨p, sl, t, d, k, its, bs⟩ := x; unfold PC.ok at h
 cases t <;> simp only [if_true, if_false, Bool.false_eq_true] at h
 all_goals
  obtain ⟨h1, h2, -⟩ := h; have hl := blk_lt h1; have R := Chg.cells (S := NoB) h1 id; have X := Chg.refl NoB w; go_enter Tryz.func90, Tryz.ntmps90
  simp only [PC.val, PC.ptrs, if_true, if_false, Bool.false_eq_true]; go_wp2
  go_ret; exact ⟨rfl, X.alloc _⟩
theorem hid' {p : Prop} (h : p) : Hid p := h
def kindI (c : Int) : Int :=
 if c = 0 ∨ c = 9 ∨ c = 10 ∨ c = 12 ∨ c = 13 ∨ c = 32 then 1
 else if c = 40 ∨ c = 41 ∨ c = 60 ∨ c = 62 ∨ c = 91 ∨ c = 93 ∨ c = 123 ∨ c = 125 ∨ c = 47 ∨ c = 37 then 2 else 3
def valueI (c : Int) : Int :=
 if 48 ≤ c ∧ c ≤ 57 then c - 48 else if 97 ≤ c ∧ c ≤ 122 then c - 87 else if 65 ≤ c ∧ c ≤ 90 then c - 55 else -1
def isReg (c : UInt8) : Bool := kindI c.toNat == 3
def regL (l : List UInt8) : Nat := (l.takeWhile isReg).length
theorem size_lst (s : ByteArray) : s.toList.length = s.size := by rw [ByteArray.toList_eq]; rfl
theorem drop_at (s : ByteArray) (j : Nat) (h : j < s.size) : s.toList.drop j = s[j] :: s.toList.drop (j + 1) := by
 rw [List.drop_eq_getElem_cons (by rw [size_lst]; exact h)]
 congr 1
 simp only [ByteArray.toList_eq]; rfl
theorem drop_end (s : ByteArray) (j : Nat) (h : s.size ≤ j) : s.toList.drop j = [] := List.drop_eq_nil_of_le (by rw [size_lst]; exact h)
set_option maxRecDepth 100000 in
set_option maxHeartbeats 2000000 in
theorem ckind_any (c : Int) (w : World) : Calls Tryz.prog 117 #[.int .u8 c] w fun e w' => e = .returned (.int .i64 (kindI c)) ∧ w = w' := by
 have hr : kindI c = if c = 0 ∨ c = 9 ∨ c = 10 ∨ c = 12 ∨ c = 13 ∨ c = 32 then 1
  else if c = 40 ∨ c = 41 ∨ c = 60 ∨ c = 62 ∨ c = 91 ∨ c = 93 ∨ c = 123 ∨ c = 125 ∨ c = 47 ∨ c = 37 then 2 else 3 := rfl
 have HR := hid' hr; clear hr; go_enter Tryz.func117, Tryz.ntmps117
 go_wp2
 all_goals
  go_ret; rw [HR.out]; refine ⟨?_, rfl⟩
  simp_all
set_option maxRecDepth 100000 in
set_option maxHeartbeats 2000000 in
theorem value_any (c : Int) (h0 : 0 ≤ c) (h1 : c < 256) (w : World) : Calls Tryz.prog 144 #[.int .u8 c] w fun e w' => e = .returned (.int .i64 (valueI c)) ∧ w = w' := by
 have hr : valueI c = if 48 ≤ c ∧ c ≤ 57 then c - 48 else if 97 ≤ c ∧ c ≤ 122 then c - 87 else if 65 ≤ c ∧ c ≤ 90 then c - 55 else -1 := rfl
 have HR := hid' hr; clear hr
 by_cases a1 : 48 ≤ c
 all_goals by_cases a2 : c ≤ 57
 all_goals by_cases a3 : 97 ≤ c
 all_goals by_cases a4 : c ≤ 122
 all_goals by_cases a5 : 65 ≤ c
 all_goals by_cases a6 : c ≤ 90
 all_goals first | (exfalso; omega) | skip
 all_goals
  go_enter Tryz.func144, Tryz.ntmps144
  go_wp2
  go_ret; rw [HR.out]; refine ⟨congrArg (fun z => Ending.returned (Value.int .i64 z)) ?_, rfl⟩
  split <;> (try split) <;> (try split) <;> omega
theorem regL_at (s : ByteArray) (j : Nat) (h : j < s.size) : regL (s.toList.drop j) = if kindI s[j].toNat = 3 then regL (s.toList.drop (j + 1)) + 1 else 0 := by
 rw [drop_at s j h]; unfold regL; rw [List.takeWhile_cons]; unfold isReg
 by_cases hk : kindI s[j].toNat = 3 <;> simp [hk]
theorem regL_end (s : ByteArray) (j : Nat) (h : s.size ≤ j) : regL (s.toList.drop j) = 0 := by rw [drop_end s j h]; rfl
theorem regL_le (l : List UInt8) : regL l ≤ l.length := (List.takeWhile_sublist _).length_le
set_option maxRecDepth 100000 in
set_option maxHeartbeats 2000000 in
theorem regular_any (s : ByteArray) (a : Nat) (hs : s.size ≤ 1000000) (ha : a ≤ s.size + 2) (w : World) :
 Calls Tryz.prog 73 #[.string s, .int .i64 a] w fun e w' => e = .returned (.int .i64 (regL (s.toList.drop a) : Nat)) ∧ w = w' := by
 by_cases h : s.size ≤ a
 · have h' : (s.size : Int) ≤ a := by omega
   have HE := hid' (regL_end s a h); go_enter Tryz.func73, Tryz.ntmps73
   go_wp2_with fail
   go_ret; rw [HE.out]; exact ⟨rfl, rfl⟩
 · have h' : (a : Int) < s.size := by omega
   go_enter Tryz.func73, Tryz.ntmps73
   go_wp2_with fail
   go_loop [5] (fun n => ∃ j : Nat, a ≤ j ∧ j ≤ s.size ∧ n = .int .i64 j ∧ regL (s.toList.drop a) = (j - a) + regL (s.toList.drop j)) (fun n => s.size - (intOf n).toNat)
   case atStart => exact ⟨a, Nat.le_refl _, by omega, rfl, by omega⟩
   case round =>
    obtain ⟨j, hj1, hj2, rfl, hj3⟩ := hrel; have HJ := hid' hj3; clear hj3
    by_cases hlt : j < s.size
    · have hlt' : (j : Int) < s.size := by omega
      have HS := hid' (regL_at s j hlt)
      by_cases hk : kindI s[j].toNat = 3
      · have hk' : (kindI s[j].toNat == 3) = true := by simpa using hk
        have HK := hid' hk; clear hk
        go_wp2_with (go_at_call 117; refine (ckind_any _ _).mono ?_; rintro e w' ⟨rfl, rfl⟩)
        go_round
        case rel => exact ⟨j + 1, by omega, by omega, by go_num, by rw [HJ.out, HS.out, if_pos HK.out]; omega⟩
        case measure => simp [intOf]; omega
      · have hk' : (kindI s[j].toNat == 3) = false := by simpa using hk
        have HK := hid' hk; clear hk
        go_wp2_with (go_at_call 117; refine (ckind_any _ _).mono ?_; rintro e w' ⟨rfl, rfl⟩)
        go_ret; exact ⟨by rw [HJ.out, HS.out, if_neg HK.out]; go_num, rfl⟩
    · obtain rfl : j = s.size := by omega
      have HS := hid' (regL_end s s.size (Nat.le_refl _)); go_wp2_with fail
      go_ret; exact ⟨by rw [HJ.out, HS.out]; go_num, rfl⟩
section
open Go.ChangeShapes Go.WideShapes Go.ChangeAt Go.RowKit
theorem laidOut : laidOutB Tryz.prog = true := by kernel_rfl
theorem cell_some_lt {a : Addr} (h : w.cell? a = some v) : a.block < w.heap.size := by
 apply Classical.byContradiction
 intro hn; have : w.heap[a.block]? = none := Array.getElem?_eq_none (by omega); simp [World.cell?, this] at h
end
theorem may_bad (o : O) (w : World) (h : bareO o ≠ { O.nil with kind := o.kind }) :
 Calls Tryz.prog 86 #[o.val] w fun e w' => e = .returned (.bool false) ∧ Chg NoB w w' := by
 obtain ⟨k, ex, n, a, l, s⟩ := o
 have hd : eqO (bareO ⟨k, ex, n, a, l, s⟩) ⟨k, false, 0, 0, 0, ⟨#[]⟩⟩ = false := by
  exact eqO_ne h
 go_enter Tryz.func86, Tryz.ntmps86
 go_wp2_with fail
 have hB := blk_new w (.cells #[.int .i64 k, .bool ex, .int .i64 n, .int .i64 a, .int .i64 l, .string s] 39); have XW := (Chg.refl NoB w).alloc (.cells #[.int .i64 k, .bool ex, .int .i64 n, .int .i64 a, .int .i64 l, .string s] 39); generalize hW : w.alloc _ = W at *; clear hW; have R := Chg.cells (S := NoB) hB id; have X := Chg.refl NoB W
 go_region_held3 (fun w' => Chg NoB W w') (first | assumption | (exact Chg.drew (by assumption)) | (exact Chg.pure (by assumption) (by assumption)))
  ((go_at_call 126; refine (bare_any ⟨k, ex, n, a, l, s⟩ _).mono ?_; rintro e w4 ⟨rfl, hb4⟩; clear h; generalize bareO ⟨k, ex, n, a, l, s⟩ = q at *))
 go_wp2
 go_ret; exact ⟨rfl, XW.trans (by assumption)⟩
theorem may_good (o : O) (w : World) (h : bareO o = { O.nil with kind := o.kind }) :
 Calls Tryz.prog 86 #[o.val] w fun e w' => e = .returned (.bool (mayO o)) ∧ Chg NoB w w' := by
 obtain ⟨k, ex, n, a, l, s⟩ := o; have hm : mayO ⟨k, ex, n, a, l, s⟩ = mayO ⟨k, ex, n, a, l, s⟩ := rfl
 conv at hm => rhs; rw [mayO, h]
 simp only [eqO_self, Bool.true_and] at hm; have Hm := Lib.hid hm; clear hm
 have hd : eqO (bareO ⟨k, ex, n, a, l, s⟩) ⟨k, false, 0, 0, 0, ⟨#[]⟩⟩ = true := by
  exact eqO_iff.2 h
 go_enter Tryz.func86, Tryz.ntmps86
 go_wp2_with fail
 have hB := blk_new w (.cells #[.int .i64 k, .bool ex, .int .i64 n, .int .i64 a, .int .i64 l, .string s] 39); have XW := (Chg.refl NoB w).alloc (.cells #[.int .i64 k, .bool ex, .int .i64 n, .int .i64 a, .int .i64 l, .string s] 39); generalize hW : w.alloc _ = W at *; clear hW; have R := Chg.cells (S := NoB) hB id; have X := Chg.refl NoB W
 go_region_held3 (fun w' => Chg NoB W w') (first | assumption | (exact Chg.drew (by assumption)) | (exact Chg.pure (by assumption) (by assumption)))
  ((go_at_call 126; refine (bare_any ⟨k, ex, n, a, l, s⟩ _).mono ?_; rintro e w4 ⟨rfl, hb4⟩; clear h; generalize bareO ⟨k, ex, n, a, l, s⟩ = q at *))
 go_wp2_with (go_at_call 127; refine (within_any _ _ _ _).mono ?_; rintro e w' ⟨rfl, rfl⟩)
 all_goals
  go_ret; refine ⟨?_, XW.trans (by assumption)⟩; rw [Hm.out]; clear R X XW Hm; clear hd
  first | (simp_all; done) | (simp_all; omega)
theorem may_any (o : O) (w : World) :
 Calls Tryz.prog 86 #[o.val] w fun e w' => e = .returned (.bool (mayO o)) ∧ Chg NoB w w' := by
 by_cases h : bareO o = { O.nil with kind := o.kind }
 · exact may_good o w h
 · have : mayO o = false := by unfold mayO; rw [eqO_ne h]; rfl
   rw [this]; exact may_bad o w h
abbrev obox (x : O) : Obj := .cells #[.int .i64 x.kind, .bool x.exec, .int .i64 x.n, .int .i64 x.pos, .int .i64 x.len, .string x.s] 39
abbrev nameO (s : ByteArray) : O := ⟨5, false, 0, 0, 0, s⟩
abbrev iO (v : Int) : O := ⟨3, false, v, 0, 0, ⟨#[]⟩⟩
abbrev fO (v : Int) : O := ⟨4, false, v, 0, 0, ⟨#[]⟩⟩
theorem m0 {α : Type} {a : α} {l : List α} : a ∈ a :: l := List.mem_cons_self ..
theorem m1 {α : Type} {a b : α} {l : List α} : a ∈ b :: a :: l := List.mem_cons_of_mem _ m0
theorem m2 {α : Type} {a b c : α} {l : List α} : a ∈ b :: c :: a :: l := List.mem_cons_of_mem _ m1
theorem m3 {α : Type} {a b c d : α} {l : List α} : a ∈ b :: c :: d :: a :: l := List.mem_cons_of_mem _ m2
theorem m4 {α : Type} {a b c d e : α} {l : List α} : a ∈ b :: c :: d :: e :: a :: l := List.mem_cons_of_mem _ m3
theorem m5 {α : Type} {a b c d e f : α} {l : List α} : a ∈ b :: c :: d :: e :: f :: a :: l := List.mem_cons_of_mem _ m4
theorem m6 {α : Type} {a b c d e f g : α} {l : List α} : a ∈ b :: c :: d :: e :: f :: g :: a :: l := List.mem_cons_of_mem _ m5
theorem m7 {α : Type} {a b c d e f g h : α} {l : List α} : a ∈ b :: c :: d :: e :: f :: g :: h :: a :: l := List.mem_cons_of_mem _ m6
theorem m8 {α : Type} {a b c d e f g h i : α} {l : List α} : a ∈ b :: c :: d :: e :: f :: g :: h :: i :: a :: l := List.mem_cons_of_mem _ m7
theorem m9 {α : Type} {a b c d e f g h i j : α} {l : List α} : a ∈ b :: c :: d :: e :: f :: g :: h :: i :: j :: a :: l := List.mem_cons_of_mem _ m8
end Go.Proofs.YtoogmimbmgdflaaGreat
