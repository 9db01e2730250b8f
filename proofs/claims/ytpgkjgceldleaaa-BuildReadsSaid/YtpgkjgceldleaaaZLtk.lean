/- Arguments of a law that are slices of words (api.Token). -/
import Derived.Test.YtpgkjgceldleaaaZShell
import Derived.Test.YtpgkjgceldleaaaZTokc
import Derived.Deep.Slices
namespace Go.Proofs.Ytpgkjgceldleaaa
open Go.ChangeShapes Go.WideShapes Go.ChangeAt Go.RowKit

/-- What a word that came in is of. -/
def TokOk (t : Tok) : Prop := (Lit.int .i64 t.kind).wf = true ∧ (Lit.int .i64 t.n).wf = true ∧ t.s.size ≤ maxLen ∧ (Lit.int .i64 t.pos).wf = true
/-- A slice of words that came in. -/
def ToksIn (w : World) (v : Value) (l : List Tok) : Prop := ToksAt w v l ∧ l.length ≤ maxLen ∧ ∀ t ∈ l, TokOk t
set_option maxRecDepth 100000 in
theorem toks_in {H : Type} {enc : TypeId × Value → H} {W : World} {v : Value} {d : DataW H} {p : List MemPlace} {base : Nat}
    (hv : Value.okWide Try.prog W .any base 29 v) (h : DataW.Trod enc Try.prog W 0 (fun _ => true) true 29 v d p) :
    ∃ l, ToksIn W v l := by
  obtain ⟨a, len, cap, rfl⟩ := okWide_slice Try.underlying29 hv
  obtain ⟨fuel, hf⟩ := h
  have hC : Try.prog.cellsOf 31 = 4 := by kernel_rfl
  rcases Go.Deep.open_slice Try.underlying29 hf with ⟨hcs, _⟩ | ⟨x, l, c, m, n, D, Pl, hcs, _, hl, hm, hmm, _, hcell⟩
  · simp [Value.cells] at hcs
    obtain ⟨rfl, rfl, rfl⟩ := hcs
    exact ⟨[], ⟨_, _, rfl, Nat.le_refl _, fun h => absurd h (by simp)⟩, Nat.zero_le _, fun t ht => by simp at ht⟩
  · simp [Value.cells] at hcs
    obtain ⟨rfl, rfl, rfl⟩ := hcs
    simp only [if_true] at hmm
    have each : ∀ i, i < len → ∃ t : Tok, TokOk t ∧ W.cell? (x.add (i * 4)) = some (.int .i64 t.kind) ∧ W.cell? (x.add (i * 4 + 1)) = some (.int .i64 t.n) ∧ W.cell? (x.add (i * 4 + 2)) = some (.string t.s) ∧ W.cell? (x.add (i * 4 + 3)) = some (.int .i64 t.pos) := by
      intro i hi
      obtain ⟨cs', h1, h2⟩ := hcell i (by omega)
      rw [hC] at h1
      obtain ⟨_, hlen, hc'⟩ := World.cells?_some h1
      obtain ⟨xs, k, hk, hxy, _, hxl, hg⟩ := DataW.trod_struct Try.underlying31 h2
      match xs, hxl, cs', hlen with
      | [y0, y1, y2, y3], _, [c0, c1, c2, c3], _ =>
        have q0 := hg 0 _ rfl
        have q1 := hg 1 _ rfl
        have q2 := hg 2 _ rfl
        have q3 := hg 3 _ rfl
        obtain ⟨k', e0, z0, w0⟩ := DataW.trod_int (k := .i64) (by kernel_rfl) q0
        obtain ⟨n', e1, z1, w1⟩ := DataW.trod_int (k := .i64) (by kernel_rfl) q1
        obtain ⟨s', e2, z2, w2⟩ := DataW.trod_string (by kernel_rfl) q2
        obtain ⟨p', e3, z3, w3⟩ := DataW.trod_int (k := .i64) (by kernel_rfl) q3
        have g1 : Try.prog.cellsOf 3 = 1 := by kernel_rfl
        have g3 : Try.prog.cellsOf 9 = 1 := by kernel_rfl
        simp [g1, Value.cells] at e0 e1 e3
        simp [g3, Value.cells] at e2
        subst e0 e1 e2 e3
        have d0 := hc' 0 (by omega)
        have d1 := hc' 1 (by omega)
        have d2 := hc' 2 (by omega)
        have d3 := hc' 3 (by omega)
        rw [Go.Deep.add_add] at d0 d1 d2 d3
        exact ⟨⟨k', n', s', p'⟩, ⟨w0, w1, w2, w3⟩, by simpa using d0, by simpa using d1, by simpa using d2, by simpa using d3⟩
    haveI : Inhabited Tok := ⟨⟨0, 0, ⟨#[]⟩, 0⟩⟩
    obtain ⟨f, hF⟩ := Go.Deep.choose_lt each
    refine ⟨(List.range len).map f, ⟨_, _, by rw [List.length_map, List.length_range], by simpa using hl, fun hp => ?_⟩, by simp; omega, fun t ht => ?_⟩
    · obtain ⟨b, off, spot⟩ := x
      have hspot : spot = none := by simpa [Addr.add] using World.cell?_spot (hF 0 (by simpa using hp)).2.1
      subst hspot
      simp only [Go.WideShapes.add_plain] at hF
      refine ⟨b, off, rfl, cell_some_lt (hF 0 (by simpa using hp)).2.1, fun i t ht => ?_⟩
      have hi : i < len := by simpa using (List.getElem?_eq_some_iff.1 ht).1
      rw [List.getElem?_map, List.getElem?_range hi] at ht
      simp only [Option.map_some, Option.some.injEq] at ht
      subst ht
      obtain ⟨-, e0, e1, e2, e3⟩ := hF i hi
      exact ⟨e0, by rw [Nat.add_assoc]; exact e1, by rw [Nat.add_assoc]; exact e2, by rw [Nat.add_assoc]; exact e3⟩
    · simp only [List.mem_map, List.mem_range] at ht
      obtain ⟨i, hi, rfl⟩ := ht
      exact (hF i hi).1
end Go.Proofs.Ytpgkjgceldleaaa
