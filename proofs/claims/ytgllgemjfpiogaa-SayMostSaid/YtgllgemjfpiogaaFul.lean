/- Walk: say.Full. -/
import Derived.Test.YtgllgemjfpiogaaWhl
namespace Go.Proofs.Ytgllgemjfpiogaa
open Go.RowKit

theorem own_strF {w : World} {B : Nat} {v : Value} {b : List UInt8} (h : w.ownsRow B 5 1 v b.length (b.map vu8)) : (convert 22 9 v).run Try.prog w = .ok (.string ⟨b.toArray⟩) w := by
  have hc : (convert 22 9 v).run Try.prog w = (Conv.bytesToString v).run Try.prog w := by
    obtain ⟨a, c, rfl, -⟩ := own_val h
    cases a <;> simp only [convert, Sem.run_bind, run_underlying nt_underStr, run_underlying nt_under, run_underlying nt_underByte, Result.andThen_ok]
  rw [hc]
  rcases h.2 with ⟨rfl, h0⟩ | ⟨g, cap, cur, rfl, h1, h2, h3, h4, h5, h6⟩
  · obtain rfl : b = [] := List.eq_nil_of_length_eq_zero h0
    simp [Conv.bytesToString]; rfl
  · exact bytesToString_T Try.prog w ⟨g, 0, none⟩ b cap (fun i hi => by
      rw [add_z, cells_of h2 i, ← Array.getElem?_toList]
      have : cur.toList[i]? = (cur.toList.take (b.length * 1))[i]? := by rw [List.getElem?_take, if_pos (by omega)]
      rw [this, h6]
      simp [hi])
set_option maxRecDepth 100000 in
set_option maxHeartbeats 1000000 in
theorem at_full {w0 w : World} {M : List (Nat × List C)} {K : List (Nat × Obj)} {hp : Nat} {H : List C} (A : Ats w0 w M K) (hM : (hp, H) ∈ M) (o : O) (hg : SayG H 20 o) :
    Calls Try.prog 23 #[ptr hp, o.val] w fun r w' => r = .returned (.string ⟨((sayT H 20 o).take 1000).toArray⟩) ∧ Ats w0 w' M K := by
  have HW := fun w K bt b (A : Told w0 w M K hp bt b) hb => whole_any (w0 := w0) (bt := bt) hM 20 (Nat.le_refl _) o hg w K b A hb
  generalize sayT H 20 o = T at *
  obtain ⟨k, ex, n, a, l, s⟩ := o
  have A1 := A.alloc (.cells #[.int .i64 k, .bool ex, .int .i64 n, .int .i64 a, .int .i64 l, .string s] 28)
  have A2 := A1.alloc (.cells #[ptr hp, .slice none 0 0] 105)
  have T0 : Told w0 ((w.alloc (.cells #[.int .i64 k, .bool ex, .int .i64 n, .int .i64 a, .int .i64 l, .string s] 28)).alloc (.cells #[ptr hp, .slice none 0 0] 105)) M ((w.heap.size, .cells #[.int .i64 k, .bool ex, .int .i64 n, .int .i64 a, .int .i64 l, .string s] 28) :: K) hp (w.heap.size + 1) [] :=
    ⟨.slice none 0 0, [], .inl ⟨rfl, rfl, rfl, rfl⟩, by have h := A2; rw [show (w.alloc (.cells #[.int .i64 k, .bool ex, .int .i64 n, .int .i64 a, .int .i64 l, .string s] 28)).heap.size = w.heap.size + 1 by simp] at h; exact h⟩
  have R2 := cells_of (T0.box _ (List.mem_cons_self ..))
  have l2 := blk_lt (T0.box _ (List.mem_cons_self ..))
  have P := HW _ _ _ _ T0 (by simp)
  rw [List.nil_append, show (20 : Int) - ((20 : Nat) : Int) = 0 by omega] at P
  have HP := hid' P
  simp only at R2 l2
  clear A A1 A2 HW T0 P
  go_enter Try.func23, Try.ntmps23
  go_wp2_with fail
  refine HP.out.mono ?_
  rintro r w3 ⟨rfl, A3⟩
  obtain ⟨v, R, hR, A4⟩ := A3
  have hv := own_strF (Ats.ownsG (A4.perm (List.perm_middle (l₁ := R) (l₂ := (w.heap.size, .cells #[.int .i64 k, .bool ex, .int .i64 n, .int .i64 a, .int .i64 l, .string s] 28) :: K) (a := (w.heap.size + 1, tlBox hp v))).symm) hR)
  have R4 := cells_of (A4.box _ (List.mem_cons_self ..))
  have l4 := blk_lt (A4.box _ (List.mem_cons_self ..))
  simp only at R4 l4
  have HA := hid' A4
  clear A4 hR
  go_wp2_with fail
  go_ret
  refine ⟨rfl, HA.out.keep ?_⟩
  exact ((List.sublist_cons_self _ K).trans (List.sublist_append_right R _)).trans (List.sublist_cons_self _ _)
end Go.Proofs.Ytgllgemjfpiogaa
