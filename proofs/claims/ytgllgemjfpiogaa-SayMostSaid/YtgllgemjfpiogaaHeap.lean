/- The heap as plain data: cells, their places in memory, and what it means that a world holds a heap. -/
import Derived.Test.YtgllgemjfpiogaaObj
import Derived.Lib.Hide
namespace Go.Proofs.Ytgllgemjfpiogaa
open Go.RowKit

/-- A slice v of n elements (size cells each) whose cells are xs: nil, or a row from the head of a block on. -/
def Row (w : World) (T : TypeId) (size : Nat) (v : Value) (n : Nat) (xs : List Value) : Prop :=
  xs.length = n * size ∧
  ((v = .slice none 0 0 ∧ n = 0) ∨
   ∃ g cap cur fz, v = .slice (some ⟨g, 0, none⟩) n cap ∧ w.heap[g]? = some (.cells cur T fz) ∧ (fz = (0, 0) ∨ cur.size ≤ fz.1) ∧ n ≤ cap ∧ cap ≤ maxLen ∧ cur.size = cap * size ∧ cur.toList.take (n * size) = xs)

/-- A cell of the heap, as plain data. -/
structure C where
  text : Bool
  dict : Bool
  locked : Bool
  items : List O
  bytes : List UInt8
def C.size (c : C) : Nat := if c.text then c.bytes.length else c.items.length
def C.kind (c : C) : Int := if c.text then 8 else if c.dict then 10 else 9

abbrev vu8 (b : UInt8) : Value := .int .u8 b.toNat

/-- A cell and where it lies. -/
structure PC where
  p : Nat
  sl : Value
  c : C
abbrev ptr (b : Nat) : Value := .pointer (some ⟨b, 0, none⟩)
def PC.ptrs (x : PC) : List Value := if x.c.text then [.pointer none, ptr x.p] else [ptr x.p, .pointer none]
def PC.val (x : PC) : Value := .agg x.ptrs.toArray
def PC.foot (x : PC) : List Nat := x.p :: x.sl.ownBlock.toList
def PC.ok (w : World) (x : PC) : Prop :=
  if x.c.text then
    w.heap[x.p]? = some (.cells #[.bool x.c.locked, x.sl] 91 (0, 0)) ∧ Row w 5 1 x.sl x.c.bytes.length (x.c.bytes.map vu8) ∧ x.c.items = []
  else
    w.heap[x.p]? = some (.cells #[.bool x.c.locked, .bool x.c.dict, x.sl] 100 (0, 0)) ∧ Row w 28 6 x.sl x.c.items.length (x.c.items.flatMap O.cells) ∧ x.c.bytes = []

def used (L : List C) : Nat := (L.map C.size).sum

/-- A heap in memory. -/
structure HS where
  hp : Nat
  slv : Value
  L : List PC
abbrev HS.l (h : HS) : List C := h.L.map PC.c
def HS.foot (h : HS) : List Nat := h.hp :: (h.slv.ownBlock.toList ++ h.L.flatMap PC.foot)
structure HeapRep (w : World) (h : HS) : Prop where
  head : w.heap[h.hp]? = some (.cells #[h.slv, .int .i64 (used h.l : Nat)] 74 (0, 0))
  own : w.ownsRow 0 94 2 h.slv h.L.length (h.L.flatMap PC.ptrs)
  cell : ∀ x ∈ h.L, x.ok w
  apart : h.foot.Nodup
  most : h.L.length ≤ 2000
  room : used h.l ≤ 40000

/-! ### Rows -/
theorem Row.shape {w : World} {T : TypeId} {size : Nat} {v : Value} {n : Nat} {xs : List Value} (h : Row w T size v n xs) : ∃ a cap, v = .slice a n cap ∧ (n ≤ cap) := by
  rcases h.2 with ⟨rfl, rfl⟩ | ⟨g, cap, cur, fz, rfl, _, _, h1, _⟩
  · exact ⟨none, 0, rfl, Nat.le_refl _⟩
  · exact ⟨_, _, rfl, h1⟩
theorem Row.some' {w : World} {T : TypeId} {size : Nat} {v : Value} {n : Nat} {xs : List Value} (h : Row w T size v n xs) (hn : 0 < n) :
    ∃ g cap cur fz, v = .slice (some ⟨g, 0, none⟩) n cap ∧ w.heap[g]? = some (.cells cur T fz) ∧ (fz = (0, 0) ∨ cur.size ≤ fz.1) ∧ n ≤ cap ∧ cap ≤ maxLen ∧ cur.size = cap * size ∧ (∀ i, i < n * size → cur[i]? = xs[i]?) := by
  rcases h.2 with ⟨_, rfl⟩ | ⟨g, cap, cur, fz, h1, h2, h3, h4, h5, h6, h7⟩
  · omega
  · refine ⟨g, cap, cur, fz, h1, h2, h3, h4, h5, h6, fun i hi => ?_⟩
    rw [← h7, List.getElem?_take, if_pos hi]; simp
theorem Row.chg {w w' : World} {S : Nat → Prop} {T : TypeId} {size : Nat} {v : Value} {n : Nat} {xs : List Value} (h : Row w T size v n xs) (hc : Chg S w w') (hS : ∀ b ∈ v.ownBlock.toList, ¬ S b) : Row w' T size v n xs := by
  refine ⟨h.1, ?_⟩
  rcases h.2 with hn | ⟨g, cap, cur, fz, rfl, h2, rest⟩
  · exact .inl hn
  · exact .inr ⟨g, cap, cur, fz, rfl, hc.blk h2 (hS g (by simp [Value.ownBlock])), rest⟩
theorem Row.lt {w : World} {T : TypeId} {size : Nat} {v : Value} {n : Nat} {xs : List Value} (h : Row w T size v n xs) : ∀ b ∈ v.ownBlock.toList, b < w.heap.size := by
  rcases h.2 with ⟨rfl, _⟩ | ⟨g, cap, cur, fz, rfl, h2, rest⟩
  · simp [Value.ownBlock]
  · intro b hb; simp [Value.ownBlock] at hb; subst hb; exact blk_lt h2
theorem Row.of_owns {w : World} {T : TypeId} {size : Nat} {v : Value} {n : Nat} {xs : List Value} (h : w.ownsRow 0 T size v n xs) : Row w T size v n xs := by
  refine ⟨h.1, ?_⟩
  rcases h.2 with hn | ⟨g, cap, cur, h1, h2, h3, h4, h5, h6, h7⟩
  · exact .inl hn
  · exact .inr ⟨g, cap, cur, _, h1, h3, .inl rfl, h4, h5, h6, h7⟩
theorem owns_chg {w w' : World} {S : Nat → Prop} {T : TypeId} {size : Nat} {v : Value} {n : Nat} {xs : List Value} (h : w.ownsRow 0 T size v n xs) (hc : Chg S w w') (hS : ∀ b ∈ v.ownBlock.toList, ¬ S b) : w'.ownsRow 0 T size v n xs := by
  refine ⟨h.1, ?_⟩
  rcases h.2 with hn | ⟨g, cap, cur, rfl, h1, h2, rest⟩
  · exact .inl hn
  · exact .inr ⟨g, cap, cur, rfl, h1, hc.blk h2 (hS g (by simp [Value.ownBlock])), rest⟩
theorem HeapRep.row {w : World} {h : HS} (H : HeapRep w h) : Row w 94 2 h.slv h.L.length (h.L.flatMap PC.ptrs) := Row.of_owns H.own
theorem flat_length {α : Type} (f : α → List Value) (k : Nat) (hf : ∀ x, (f x).length = k) : ∀ L : List α, (L.flatMap f).length = L.length * k
  | [] => by simp
  | x :: L => by rw [List.flatMap_cons, List.length_append, hf, flat_length f k hf L, List.length_cons, Nat.succ_mul, Nat.add_comm]
theorem flat_get {α : Type} (f : α → List Value) (k : Nat) (hf : ∀ x, (f x).length = k) (j : Nat) (hj : j < k) : ∀ (L : List α) (i : Nat), (L.flatMap f)[i * k + j]? = (L[i]?).bind fun x => (f x)[j]?
  | [], i => by simp
  | x :: L, 0 => by rw [List.flatMap_cons, List.getElem?_append_left (by rw [hf]; omega)]; simp
  | x :: L, i + 1 => by
    rw [List.flatMap_cons, List.getElem?_append_right (by rw [hf, Nat.succ_mul]; omega), hf, show (i + 1) * k + j - k = i * k + j by rw [Nat.succ_mul]; omega, flat_get f k hf j hj L i]
    simp
theorem ptrs_length (x : PC) : x.ptrs.length = 2 := by unfold PC.ptrs; split <;> rfl
theorem cells_length (o : O) : o.cells.length = 6 := rfl

/-! ### A heap under changes elsewhere -/
theorem PC.ok.chg {w w' : World} {S : Nat → Prop} {x : PC} (h : x.ok w) (hc : Chg S w w') (hS : ∀ b ∈ x.foot, ¬ S b) : x.ok w' := by
  unfold PC.ok at h ⊢
  have h1 : ∀ b ∈ x.sl.ownBlock.toList, ¬ S b := fun b hb => hS b (by simp [PC.foot]; exact .inr (by simpa using hb))
  have h2 : ¬ S x.p := hS _ (by simp [PC.foot])
  split <;> rename_i ht <;> simp only [ht, if_true, if_false, Bool.false_eq_true] at h
  · exact ⟨hc.blk h.1 h2, h.2.1.chg hc h1, h.2.2⟩
  · exact ⟨hc.blk h.1 h2, h.2.1.chg hc h1, h.2.2⟩
theorem PC.ok.lt {w : World} {x : PC} (h : x.ok w) : ∀ b ∈ x.foot, b < w.heap.size := by
  intro b hb
  simp only [PC.foot, List.mem_cons] at hb
  unfold PC.ok at h
  split at h
  · rcases hb with rfl | hb
    · exact blk_lt h.1
    · exact h.2.1.lt b hb
  · rcases hb with rfl | hb
    · exact blk_lt h.1
    · exact h.2.1.lt b hb
theorem HeapRep.lt {w : World} {h : HS} (H : HeapRep w h) : ∀ b ∈ h.foot, b < w.heap.size := by
  intro b hb
  simp only [HS.foot, List.mem_cons, List.mem_append, List.mem_flatMap] at hb
  rcases hb with rfl | hb | ⟨x, hx, hb⟩
  · exact blk_lt H.head
  · exact H.row.lt b hb
  · exact (H.cell x hx).lt b hb
theorem HeapRep.chg {w w' : World} {S : Nat → Prop} {h : HS} (H : HeapRep w h) (hc : Chg S w w') (hS : ∀ b ∈ h.foot, ¬ S b) : HeapRep w' h where
  head := hc.blk H.head (hS _ (by simp [HS.foot]))
  own := owns_chg H.own hc fun b hb => hS b (by simp only [HS.foot, List.mem_cons, List.mem_append]; exact .inr (.inl hb))
  cell := fun x hx => (H.cell x hx).chg hc fun b hb => hS b (by simp only [HS.foot, List.mem_cons, List.mem_append, List.mem_flatMap]; exact .inr (.inr ⟨x, hx, hb⟩))
  apart := H.apart
  most := H.most
  room := H.room
theorem HeapRep.pure {w w' : World} {h : HS} (H : HeapRep w h) (hc : Chg NoB w w') : HeapRep w' h := H.chg hc fun _ _ e => e

/-! ### What a cell's list holds -/
theorem PC.ok.item {w : World} {x : PC} (h : x.ok w) (ht : x.c.text = false) {i : Nat} (hi : i < x.c.items.length) :
    ∃ g cap cur fz, x.sl = .slice (some ⟨g, 0, none⟩) x.c.items.length cap ∧ w.heap[g]? = some (.cells cur 28 fz) ∧ (fz = (0, 0) ∨ cur.size ≤ fz.1) ∧ x.c.items.length * 6 ≤ cur.size ∧ g ∈ x.sl.ownBlock.toList ∧
      cur[i * 6]? = some (.int .i64 x.c.items[i].kind) ∧ cur[i * 6 + 1]? = some (.bool x.c.items[i].exec) ∧ cur[i * 6 + 2]? = some (.int .i64 x.c.items[i].n) ∧
      cur[i * 6 + 3]? = some (.int .i64 x.c.items[i].pos) ∧ cur[i * 6 + 4]? = some (.int .i64 x.c.items[i].len) ∧ cur[i * 6 + 5]? = some (.string x.c.items[i].s) := by
  unfold PC.ok at h
  simp only [ht, if_false, Bool.false_eq_true] at h
  obtain ⟨g, cap, cur, fz, h1, h2, h3, h4, h5, h6, h7⟩ := h.2.1.some' (by omega)
  have e : ∀ j, j < 6 → cur[i * 6 + j]? = x.c.items[i].cells[j]? := fun j hj => by
    rw [h7 _ (by omega), flat_get O.cells 6 cells_length j hj, List.getElem?_eq_getElem hi]; rfl
  exact ⟨g, cap, cur, fz, h1, h2, h3, by rw [h6]; exact Nat.mul_le_mul_right _ h4, by rw [h1]; simp [Value.ownBlock], e 0 (by omega), e 1 (by omega), e 2 (by omega), e 3 (by omega), e 4 (by omega), e 5 (by omega)⟩
theorem PC.ok.byte {w : World} {x : PC} (h : x.ok w) (ht : x.c.text = true) {i : Nat} (hi : i < x.c.bytes.length) :
    ∃ g cap cur fz, x.sl = .slice (some ⟨g, 0, none⟩) x.c.bytes.length cap ∧ w.heap[g]? = some (.cells cur 5 fz) ∧ (fz = (0, 0) ∨ cur.size ≤ fz.1) ∧ x.c.bytes.length ≤ cur.size ∧ g ∈ x.sl.ownBlock.toList ∧
      cur[i]? = some (vu8 x.c.bytes[i]) := by
  unfold PC.ok at h
  simp only [ht, if_true] at h
  obtain ⟨g, cap, cur, fz, h1, h2, h3, h4, h5, h6, h7⟩ := h.2.1.some' (by omega)
  refine ⟨g, cap, cur, fz, h1, h2, h3, by omega, by rw [h1]; simp [Value.ownBlock], ?_⟩
  rw [h7 _ (by omega)]; simp [hi]
theorem PC.ok.shape {w : World} {x : PC} (h : x.ok w) : ∃ a cap, x.sl = .slice a x.c.size cap ∧ x.c.size ≤ cap := by
  unfold PC.ok at h
  unfold C.size
  split at h <;> rename_i ht <;> simp only [ht, if_true, if_false, Bool.false_eq_true]
  · exact h.2.1.shape
  · exact h.2.1.shape
theorem PC.ok.head {w : World} {x : PC} (h : x.ok w) : (x.c.text = true → w.heap[x.p]? = some (.cells #[.bool x.c.locked, x.sl] 91 (0, 0))) ∧ (x.c.text = false → w.heap[x.p]? = some (.cells #[.bool x.c.locked, .bool x.c.dict, x.sl] 100 (0, 0))) := by
  unfold PC.ok at h
  split at h <;> rename_i ht <;> simp only [ht]
  · exact ⟨fun _ => h.1, fun e => by simp at e⟩
  · exact ⟨fun e => by simp at e, fun _ => h.1⟩

/-! ### What the heap's functions compute -/
def held (o : O) : Bool := o.kind == 9 || o.kind == 8 || o.kind == 10
def mayH (L : List C) (o : O) : Bool :=
  mayO o && (!held o || (decide (o.n < L.length) && match L[o.n.toNat]? with
    | some c => decide (c.kind = o.kind) && decide (o.pos + o.len ≤ c.size)
    | none => false))
def findE (L : List C) (o : O) : Int := if held o = false then 6 else if mayH L o = false then 1 else 0
/-- Where what an object stands for begins, and how many. -/
def atOf (o : O) : Int := if o.kind = 10 then 0 else o.pos
def lenOf (c : C) (o : O) : Int := if o.kind = 10 then c.size else o.len

/-- What Get answers. -/
def getH (L : List C) (o : O) (i : Int) : O × Int :=
  if findE L o ≠ 0 then (O.nil, findE L o)
  else match L[o.n.toNat]? with
    | none => (O.nil, 0)
    | some c =>
      if i < 0 ∨ lenOf c o ≤ i then (O.nil, 12)
      else if c.text then (⟨3, false, (c.bytes.getD (atOf o + i).toNat 0).toNat, 0, 0, ⟨#[]⟩⟩, 0)
      else (c.items.getD (atOf o + i).toNat O.nil, 0)
/-- What Set answers, and leaves. -/
def setH (L : List C) (o : O) (i : Int) (x : O) : List C × Int :=
  if findE L o ≠ 0 then (L, findE L o)
  else match L[o.n.toNat]? with
    | none => (L, 0)
    | some c =>
      if i < 0 ∨ lenOf c o ≤ i then (L, 12)
      else if c.locked then (L, 1)
      else if c.text then
        if x.kind ≠ 3 then (L, 6)
        else if x.n < 0 ∨ 255 < x.n then (L, 2)
        else (L.set o.n.toNat { c with bytes := c.bytes.set (atOf o + i).toNat (UInt8.ofNat x.n.toNat) }, 0)
      else if mayH L x = false then (L, 1)
      else (L.set o.n.toNat { c with items := c.items.set (atOf o + i).toNat x }, 0)
/-- The heap h has become one that holds L. -/
def Next (w : World) (h : HS) (w' : World) (L : List C) : Prop :=
  ∃ h' : HS, h'.hp = h.hp ∧ h'.l = L ∧ HeapRep w' h' ∧ Chg (· ∈ h.foot) w w' ∧ ∀ b ∈ h'.foot, b ∈ h.foot ∨ w.heap.size ≤ b
end Go.Proofs.Ytgllgemjfpiogaa
