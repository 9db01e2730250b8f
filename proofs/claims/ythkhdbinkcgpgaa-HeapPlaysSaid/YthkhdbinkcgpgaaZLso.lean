/- An object that a law takes, opened to its six cells, and shut again in any world. -/
import Derived.Test.YthkhdbinkcgpgaaZShell
import Derived.Test.YthkhdbinkcgpgaaZHeapa
import Derived.Lib.SmallJoins
namespace Go.Proofs.Ythkhdbinkcgpgaa
open Go.Joins Go.ChangeShapes Go.WideShapes Go.RowKit Go.Deep

theorem trod_i {H : Type} {enc : TypeId × Value → H} {P : Program} {W : World} {b : Nat} {sp : Nat → Bool} {hd : Bool} {t : TypeId} {k : IntKind} {i : Int} (ht : P.underlying t = some (.int k)) (hw : (Lit.int k i).wf = true) :
    DataW.trod enc P W b sp hd 1 t [.int k i] = some (.lit (.int k i), []) := by simp [DataW.trod, ht, hw]
theorem trod_b {H : Type} {enc : TypeId × Value → H} {P : Program} {W : World} {b : Nat} {sp : Nat → Bool} {hd : Bool} {t : TypeId} {i : Bool} (ht : P.underlying t = some .bool) :
    DataW.trod enc P W b sp hd 1 t [.bool i] = some (.lit (.bool i), []) := by simp [DataW.trod, ht]
theorem trod_s {H : Type} {enc : TypeId × Value → H} {P : Program} {W : World} {b : Nat} {sp : Nat → Bool} {hd : Bool} {t : TypeId} {s : ByteArray} (ht : P.underlying t = some .string) (hw : s.size ≤ maxLen) :
    DataW.trod enc P W b sp hd 1 t [.string s] = some (.lit (.string s.data.toList), []) := by simp [DataW.trod, ht, hw]

set_option maxRecDepth 100000 in
theorem open_obj {H : Type} {enc : TypeId × Value → H} {W : World} {r : Reach} {b b0 : Nat} {sp : Nat → Bool} {hd : Bool} {v : Value} {d : DataW H} {p : List MemPlace}
    (hv : Value.okWide Try.prog W r b0 24 v) (h : DataW.Trod enc Try.prog W b sp hd 24 v d p) :
    ∃ o : O, v = o.val ∧ p = [] ∧ o.s.size ≤ maxLen ∧ ∀ (W' : World) (b' : Nat) (sp' : Nat → Bool) (hd' : Bool), DataW.Trod enc Try.prog W' b' sp' hd' 24 o.val d [] := by
  have hs := Try.underlying24
  have hC : Try.prog.cellsOf 24 = 6 := by kernel_rfl
  obtain ⟨cs, rfl, hsz⟩ := okWide_struct hs hv
  obtain ⟨l⟩ := cs
  match l, hsz.trans hC with
  | [c0, c1, c2, c3, c4, c5], _ =>
    obtain ⟨fuel, hf⟩ := h
    obtain ⟨xs, n, _, hx, _, hlen, hg⟩ := DataW.trod_struct hs hf
    match xs, hlen with
    | [y0, y1, y2, y3, y4, y5], _ =>
      have q0 := hg 0 _ rfl
      have q1 := hg 1 _ rfl
      have q2 := hg 2 _ rfl
      have q3 := hg 3 _ rfl
      have q4 := hg 4 _ rfl
      have q5 := hg 5 _ rfl
      obtain ⟨k, e0, z0, w0⟩ := DataW.trod_int (k := .i64) (by kernel_rfl) q0
      obtain ⟨x, e1, z1⟩ := DataW.trod_bool (by kernel_rfl) q1
      obtain ⟨n', e2, z2, w2⟩ := DataW.trod_int (k := .i64) (by kernel_rfl) q2
      obtain ⟨a, e3, z3, w3⟩ := DataW.trod_int (k := .i64) (by kernel_rfl) q3
      obtain ⟨l', e4, z4, w4⟩ := DataW.trod_int (k := .i64) (by kernel_rfl) q4
      obtain ⟨s, e5, z5, w5⟩ := DataW.trod_string (by kernel_rfl) q5
      have g1 : Try.prog.cellsOf 3 = 1 := by kernel_rfl
      have g2 : Try.prog.cellsOf 4 = 1 := by kernel_rfl
      have g3 : Try.prog.cellsOf 9 = 1 := by kernel_rfl
      simp [g1, Value.cells] at e0 e2 e3 e4
      simp [g2, Value.cells] at e1
      simp [g3, Value.cells] at e5
      subst e0 e1 e2 e3 e4 e5 z0 z1 z2 z3 z4 z5
      simp only [Prod.mk.injEq] at hx
      refine ⟨⟨k, x, n', a, l', s⟩, rfl, by simpa using hx.2, w5, fun W' b' sp' hd' => ?_⟩
      have ts := trod_struct_mk (enc := enc) (P := Try.prog) (w := W') (base := b') (spare := sp') (held := hd') (n := 1) (cs := [.int .i64 k, .bool x, .int .i64 n', .int .i64 a, .int .i64 l', .string s])
        (xs := [(.lit (.int .i64 k), []), (.lit (.bool x), []), (.lit (.int .i64 n'), []), (.lit (.int .i64 a), []), (.lit (.int .i64 l'), []), (.lit (.string s.data.toList), [])]) hs (by simp [hC])
        (by simp [g1, g2, g3, trod_i (P := Try.prog) (t := 3) (k := .i64) (by kernel_rfl) w0, trod_i (P := Try.prog) (t := 3) (k := .i64) (by kernel_rfl) w2, trod_i (P := Try.prog) (t := 3) (k := .i64) (by kernel_rfl) w3, trod_i (P := Try.prog) (t := 3) (k := .i64) (by kernel_rfl) w4, trod_b (P := Try.prog) (t := 4) (by kernel_rfl), trod_s (P := Try.prog) (t := 9) (by kernel_rfl) w5])
      rw [hx.1]
      exact ⟨_, by simpa [Value.cells] using ts⟩
end Go.Proofs.Ythkhdbinkcgpgaa
