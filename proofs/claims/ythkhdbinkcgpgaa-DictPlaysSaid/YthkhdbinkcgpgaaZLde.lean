/- Arguments of a law that are slices of tympanlaw12.Deed. -/
import Derived.Test.YthkhdbinkcgpgaaZShell
import Derived.Test.YthkhdbinkcgpgaaZLso
import Derived.Test.YthkhdbinkcgpgaaZHeapc
import Derived.Deep.Slices
namespace Go.Proofs.Ythkhdbinkcgpgaa
open Go.ChangeShapes Go.WideShapes Go.ChangeAt Go.RowKit

structure De where
  what : Int
  key : Int
  num : Int
  o : O
def De.cells (t : De) : List Value := [.int .i64 t.what, .int .i64 t.key, .int .i64 t.num, .int .i64 t.o.kind, .bool t.o.exec, .int .i64 t.o.n, .int .i64 t.o.pos, .int .i64 t.o.len, .string t.o.s]
/-- A slice of these that came in. -/
def DesAt (w : World) (v : Value) (l : List De) : Prop :=
  ∃ a cap, v = .slice a l.length cap ∧ l.length ≤ cap ∧ (0 < l.length → ∃ b off, a = some ⟨b, off, none⟩ ∧ b < w.heap.size ∧ ∀ (i : Nat) (t : De), l[i]? = some t → ∀ j, j < 9 → w.cell? ⟨b, off + i * 9 + j, none⟩ = t.cells[j]?)
theorem DesAt.pure {w w' : World} {v : Value} {l : List De} (h : DesAt w v l) (X : Chg NoB w w') : DesAt w' v l := by
  obtain ⟨a, cap, h1, h2, h3⟩ := h
  refine ⟨a, cap, h1, h2, fun hl => ?_⟩
  obtain ⟨b, off, h4, h5, h6⟩ := h3 hl
  refine ⟨b, off, h4, Nat.lt_of_lt_of_le h5 X.size, fun i t ht j hj => ?_⟩
  have h7 := h6 i t ht j hj
  have hlt : j < t.cells.length := hj
  rw [List.getElem?_eq_getElem hlt] at h7 ⊢
  rw [X.below.cell (p := ⟨b, off + i * 9 + j, none⟩) h5]
  exact h7
def DeOk (t : De) : Prop := (Lit.int .i64 t.what).wf = true ∧ (Lit.int .i64 t.key).wf = true ∧ (Lit.int .i64 t.num).wf = true ∧ t.o.s.size ≤ maxLen
def DesIn (w : World) (v : Value) (l : List De) : Prop := DesAt w v l ∧ l.length ≤ maxLen ∧ ∀ t ∈ l, DeOk t
set_option maxRecDepth 100000 in
theorem des_in {H : Type} {enc : TypeId × Value → H} {W : World} {v : Value} {d : DataW H} {p : List MemPlace} {base : Nat}
    (hv : Value.okWide Try.prog W .any base 47 v) (h : DataW.Trod enc Try.prog W 0 (fun _ => true) true 47 v d p) :
    ∃ l, DesIn W v l := by
  obtain ⟨a, len, cap, rfl⟩ := okWide_slice Try.underlying47 hv
  obtain ⟨fuel, hf⟩ := h
  have hC : Try.prog.cellsOf 52 = 9 := by kernel_rfl
  rcases Go.Deep.open_slice Try.underlying47 hf with ⟨hcs, _⟩ | ⟨x, l, c, m, n, D, Pl, hcs, _, hl, hm, hmm, _, hcell⟩
  · simp [Value.cells] at hcs
    obtain ⟨rfl, rfl, rfl⟩ := hcs
    exact ⟨[], ⟨_, _, rfl, Nat.le_refl _, fun h => absurd h (by simp)⟩, Nat.zero_le _, fun t ht => by simp at ht⟩
  · simp [Value.cells] at hcs
    obtain ⟨rfl, rfl, rfl⟩ := hcs
    simp only [if_true] at hmm
    have each : ∀ i, i < len → ∃ t : De, DeOk t ∧ ∀ j, j < 9 → W.cell? (x.add (i * 9 + j)) = t.cells[j]? := by
      intro i hi
      obtain ⟨cs', h1, h2⟩ := hcell i (by omega)
      rw [hC] at h1
      obtain ⟨_, hlen, hc'⟩ := World.cells?_some h1
      obtain ⟨xs, k, hk, hxy, _, hxl, hg⟩ := DataW.trod_struct Try.underlying52 h2
      match xs, hxl, cs', hlen with
      | [y0, y1, y2, y3], _, [c0, c1, c2, c3, c4, c5, c6, c7, c8], _ =>
        have g1 : Try.prog.cellsOf 3 = 1 := by kernel_rfl
        have g2 : Try.prog.cellsOf 4 = 1 := by kernel_rfl
        have g3 : Try.prog.cellsOf 9 = 1 := by kernel_rfl
        have g6 : Try.prog.cellsOf 24 = 6 := by kernel_rfl
        have q0 := hg 0 _ rfl
        have q1 := hg 1 _ rfl
        have q2 := hg 2 _ rfl
        have q3 := hg 3 _ rfl
        obtain ⟨k0, e0, z0, w0⟩ := DataW.trod_int (k := .i64) (by kernel_rfl) q0
        simp [g1] at e0
        obtain ⟨k1, e1, z1, w1⟩ := DataW.trod_int (k := .i64) (by kernel_rfl) q1
        simp [g1] at e1
        obtain ⟨k2, e2, z2, w2⟩ := DataW.trod_int (k := .i64) (by kernel_rfl) q2
        simp [g1] at e2
        obtain ⟨zs, k9, _, _, _, hzl, hgo⟩ := DataW.trod_struct Try.underlying24 q3
        match zs, hzl with
        | [x0, x1, x2, x3, x4, x5], _ =>
          have r0 := hgo 0 _ rfl
          have r1 := hgo 1 _ rfl
          have r2 := hgo 2 _ rfl
          have r3 := hgo 3 _ rfl
          have r4 := hgo 4 _ rfl
          have r5 := hgo 5 _ rfl
          obtain ⟨ok, E0, -, -⟩ := DataW.trod_int (k := .i64) (by kernel_rfl) r0
          simp [g1, g6] at E0
          obtain ⟨ox, E1, -⟩ := DataW.trod_bool (by kernel_rfl) r1
          simp [g2, g6] at E1
          obtain ⟨on, E2, -, -⟩ := DataW.trod_int (k := .i64) (by kernel_rfl) r2
          simp [g1, g6] at E2
          obtain ⟨op, E3, -, -⟩ := DataW.trod_int (k := .i64) (by kernel_rfl) r3
          simp [g1, g6] at E3
          obtain ⟨ol, E4, -, -⟩ := DataW.trod_int (k := .i64) (by kernel_rfl) r4
          simp [g1, g6] at E4
          obtain ⟨os, E5, -, wo⟩ := DataW.trod_string (by kernel_rfl) r5
          simp [g3, g6] at E5
          subst e0 e1 e2 E0 E1 E2 E3 E4 E5
          refine ⟨⟨k0, k1, k2, ⟨ok, ox, on, op, ol, os⟩⟩, ⟨w0, w1, w2, wo⟩, fun j hj => ?_⟩
          have d := hc' j (by simpa using hj)
          rw [Go.Deep.add_add] at d
          exact d
    haveI : Inhabited De := ⟨⟨0, 0, 0, O.nil⟩⟩
    obtain ⟨f, hF⟩ := Go.Deep.choose_lt each
    refine ⟨(List.range len).map f, ⟨_, _, by rw [List.length_map, List.length_range], by simpa using hl, fun hp => ?_⟩, by simp; omega, fun t ht => ?_⟩
    · obtain ⟨b, off, spot⟩ := x
      have h00 : W.cell? ((⟨b, off, spot⟩ : Addr).add (0 * 9 + 0)) = some (.int .i64 (f 0).what) := (hF 0 (by simpa using hp)).2 0 (by decide)
      have hspot : spot = none := by simpa [Addr.add] using World.cell?_spot h00
      subst hspot
      simp only [Go.WideShapes.add_plain] at hF h00
      refine ⟨b, off, rfl, cell_some_lt h00, fun i t ht j hj => ?_⟩
      have hi : i < len := by simpa using (List.getElem?_eq_some_iff.1 ht).1
      rw [List.getElem?_map, List.getElem?_range hi] at ht
      simp only [Option.map_some, Option.some.injEq] at ht
      subst ht
      rw [Nat.add_assoc]
      exact (hF i hi).2 j hj
    · simp only [List.mem_map, List.mem_range] at ht
      obtain ⟨i, hi, rfl⟩ := ht
      exact (hF i hi).1
end Go.Proofs.Ythkhdbinkcgpgaa
