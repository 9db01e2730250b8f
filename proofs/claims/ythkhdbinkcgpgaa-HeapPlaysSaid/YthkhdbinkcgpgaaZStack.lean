/- Stk, Stp, Hnd -/
import Derived.Test.YthkhdbinkcgpgaaZHeapc
import Derived.Test.YthkhdbinkcgpgaaZChar
/- Walks: stack: New, Push, Peek, Pop, Len: operands as a list. -/
namespace Go.Proofs.Ythkhdbinkcgpgaa
open Go.RowKit
theorem Ats.putO {w0 w : World} {M : List (Nat × List C)} {K : List (Nat × Obj)} {b : Nat} {c0 c1 c2 c3 c4 c5 : Value} {T : TypeId} (A : Ats w0 w M ((b, .cells #[c0, c1, c2, c3, c4, c5] T) :: K)) (kk : Int) (kx : Bool) (kn kp kl : Int) (ks : ByteArray) :
    Ats w0 ((((((w.setCell ⟨b, 0, none⟩ (.int .i64 kk)).setCell ⟨b, 1, none⟩ (.bool kx)).setCell ⟨b, 2, none⟩ (.int .i64 kn)).setCell ⟨b, 3, none⟩ (.int .i64 kp)).setCell ⟨b, 4, none⟩ (.int .i64 kl)).setCell ⟨b, 5, none⟩ (.string ks)) M ((b, .cells #[.int .i64 kk, .bool kx, .int .i64 kn, .int .i64 kp, .int .i64 kl, .string ks] T) :: K) := by
  have := (((((A.put 0 (.int .i64 kk)).put 1 (.bool kx)).put 2 (.int .i64 kn)).put 3 (.int .i64 kp)).put 4 (.int .i64 kl)).put 5 (.string ks)
  simpa only [List.setIfInBounds_toArray, List.set_cons_zero, List.set_cons_succ] using this
theorem rowG_slice {T : TypeId} {sz : Nat} {R : List (Nat × Obj)} {v : Value} {n : Nat} {xs : List Value} (h : RowG T sz R v n xs) : ∃ a c, v = .slice a n c ∧ n ≤ c := by
  rcases h with ⟨rfl, h0, -⟩ | ⟨g, cap, cur, rfl, -, h1, -⟩
  · exact ⟨none, 0, by rw [h0], by omega⟩
  · exact ⟨_, _, rfl, h1⟩
theorem cells6' (w : World) (x : O) (j : Nat) (u : Value) (h : x.cells[j]? = some u) : ((w.alloc (.cells x.cells.toArray 24)).drew).cell? ((⟨w.heap.size, 0, none⟩ : Addr).add j) = some u := by
  have := World.news_of_block (w := (w.alloc (.cells x.cells.toArray 24)).drew) (B := w.heap.size) (cs := x.cells.toArray) (t := 24) (fr := (0, 0)) (blk_drew (blk_new w _)) j u (by simpa using h)
  exact this
theorem one6' (x : O) : ∀ u ∈ x.cells, u.oneCell' = true := by
  intro u hu
  simp only [O.cells, List.mem_cons, List.not_mem_nil, or_false] at hu
  rcases hu with rfl | rfl | rfl | rfl | rfl | rfl <;> rfl
end Go.Proofs.Ythkhdbinkcgpgaa
/- Walks: stack: Peek, Pop. -/
namespace Go.Proofs.Ythkhdbinkcgpgaa
open Go.RowKit

theorem flat_at (l : List O) (m j : Nat) (o : O) (h : l[m]? = some o) (hj : j < 6) : (l.flatMap O.cells)[m * 6 + j]? = o.cells[j]? := by
  rw [flat_get O.cells 6 cells_length j hj, h]; rfl
end Go.Proofs.Ythkhdbinkcgpgaa
/- Walks: hand: Is, Take, Held, From. -/
namespace Go.Proofs.Ythkhdbinkcgpgaa
open Go.RowKit

/-- Is a kind one of these? -/
def isK (ks k : Int) : Bool := bits BinOp.and IntKind.i64 (ks / 2 ^ k.toNat) 1 == 1
theorem may_kind {o : O} (h : mayO o = true) : 0 ≤ o.kind ∧ o.kind ≤ 12 := by
  unfold mayO at h
  simp only [Bool.and_eq_true] at h
  obtain ⟨-, h⟩ := h
  split at h
  · omega
  split at h
  · omega
  split at h
  · omega
  split at h
  · omega
  split at h
  · omega
  split at h
  · omega
  split at h
  · omega
  split at h
  · omega
  split at h
  · omega
  · simp at h
/-- What a made slice of objects holds, when some were put there from behind. -/
def fromEnd (ops : List O) (m : Nat) : List O := List.replicate m O.nil ++ ops.drop m
theorem fromEnd_len (ops : List O) (m : Nat) (h : m ≤ ops.length) : (fromEnd ops m).length = ops.length := by simp [fromEnd]; omega
theorem fromEnd_set (ops : List O) (m : Nat) (o : O) (h : ops[m]? = some o) : (fromEnd ops (m + 1)).set m o = fromEnd ops m := by
  have hl := (List.getElem?_eq_some_iff.1 h).1
  unfold fromEnd
  rw [List.replicate_succ', List.append_assoc, List.set_append_right _ _ (by simp), List.length_replicate, Nat.sub_self, List.singleton_append, List.set_cons_zero]
  rw [show ops.drop m = o :: ops.drop (m + 1) by rw [List.drop_eq_getElem_cons hl]; rw [List.getElem?_eq_getElem hl] at h; simp at h; rw [h]]
theorem at6 {cur : Array Value} {L : List O} (hc : cur.toList = L.flatMap O.cells) {m : Nat} {o : O} (h : L[m]? = some o) :
    cur[m * 6]? = some (.int .i64 o.kind) ∧ cur[m * 6 + 1]? = some (.bool o.exec) ∧ cur[m * 6 + 2]? = some (.int .i64 o.n) ∧ cur[m * 6 + 3]? = some (.int .i64 o.pos) ∧ cur[m * 6 + 4]? = some (.int .i64 o.len) ∧ cur[m * 6 + 5]? = some (.string o.s) := by
  have f := fun j (hj : j < 6) => flat_at L m j o h hj
  rw [← hc] at f
  simp only [Array.getElem?_toList] at f
  exact ⟨f 0 (by omega), f 1 (by omega), f 2 (by omega), f 3 (by omega), f 4 (by omega), f 5 (by omega)⟩
/-- All of the heap that should be. -/
def HeldAll (L : List C) (ops : List O) : Prop := ∀ o ∈ ops, isK 1792 o.kind = true → mayH L o = true
end Go.Proofs.Ythkhdbinkcgpgaa
