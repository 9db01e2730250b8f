/- Walks: stack: New, Push, Peek, Pop, Len: operands as a list. -/
import Derived.Test.YtpgkjgceldleaaaZHeapc
import Derived.Test.YtpgkjgceldleaaaZChar
namespace Go.Proofs.Ytpgkjgceldleaaa
open Go.RowKit
theorem Ats.putO {w0 w : World} {M : List (Nat × List C)} {K : List (Nat × Obj)} {b : Nat} {c0 c1 c2 c3 c4 c5 : Value} {T : TypeId} (A : Ats w0 w M ((b, .cells #[c0, c1, c2, c3, c4, c5] T) :: K)) (kk : Int) (kx : Bool) (kn kp kl : Int) (ks : ByteArray) :
    Ats w0 ((((((w.setCell ⟨b, 0, none⟩ (.int .i64 kk)).setCell ⟨b, 1, none⟩ (.bool kx)).setCell ⟨b, 2, none⟩ (.int .i64 kn)).setCell ⟨b, 3, none⟩ (.int .i64 kp)).setCell ⟨b, 4, none⟩ (.int .i64 kl)).setCell ⟨b, 5, none⟩ (.string ks)) M ((b, .cells #[.int .i64 kk, .bool kx, .int .i64 kn, .int .i64 kp, .int .i64 kl, .string ks] T) :: K) := by
  have := (((((A.put 0 (.int .i64 kk)).put 1 (.bool kx)).put 2 (.int .i64 kn)).put 3 (.int .i64 kp)).put 4 (.int .i64 kl)).put 5 (.string ks)
  simpa only [List.setIfInBounds_toArray, List.set_cons_zero, List.set_cons_succ] using this
theorem rowG_slice {T : TypeId} {sz : Nat} {R : List (Nat × Obj)} {v : Value} {n : Nat} {xs : List Value} (h : RowG T sz R v n xs) : ∃ a c, v = .slice a n c ∧ n ≤ c := by
  rcases h with ⟨rfl, h0, -⟩ | ⟨g, cap, cur, rfl, -, h1, -⟩
  · exact ⟨none, 0, by rw [h0], by omega⟩
  · exact ⟨_, _, rfl, h1⟩
theorem cells6' (w : World) (x : O) (j : Nat) (u : Value) (h : x.cells[j]? = some u) : ((w.alloc (.cells x.cells.toArray 36)).drew).cell? ((⟨w.heap.size, 0, none⟩ : Addr).add j) = some u := by
  have := World.news_of_block (w := (w.alloc (.cells x.cells.toArray 36)).drew) (B := w.heap.size) (cs := x.cells.toArray) (t := 36) (fr := (0, 0)) (blk_drew (blk_new w _)) j u (by simpa using h)
  exact this
theorem one6' (x : O) : ∀ u ∈ x.cells, u.oneCell' = true := by
  intro u hu
  simp only [O.cells, List.mem_cons, List.not_mem_nil, or_false] at hu
  rcases hu with rfl | rfl | rfl | rfl | rfl | rfl <;> rfl
end Go.Proofs.Ytpgkjgceldleaaa
