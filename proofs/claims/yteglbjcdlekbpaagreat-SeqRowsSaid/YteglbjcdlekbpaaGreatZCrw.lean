/- SeqRows: what stands above a mark becomes an array, which aload gives back and astore stores again: for all lists of numbers; nothing that was there is changed. -/
import Derived.Test.YteglbjcdlekbpaaGreatZShell
import Derived.HandedShaped
import Derived.Test.YteglbjcdlekbpaaGreatZSeqk
namespace Go.Proofs.YteglbjcdlekbpaaGreat.seqRows
open Go.ChangeShapes Go.WideShapes Go.ChangeAt Go.RowKit
set_option linter.unusedVariables false

theorem walk (a0 : Value) (z0 : List Int) (w : World) (w0 : IntsAt w .i16 a0 z0) (hX : MaxIs w) :
    Calls Tryz.prog 8 #[a0] w fun e w' => e = .returned (.bool true) ∧ Chg NoB w w' :=
  seqRows_any a0 z0 w w0 hX

set_option maxRecDepth 100000 in
theorem lifted (os : Os) (started : os.Started) (H : Type) (enc : TypeId × Value → H) :
    ReturnsInHanded {} Tryz.checked os 8 .any (Rows.seqRowsSpec.pre6 enc Tryz.prog Tryz.f8 Rows.seqRowsRow.domain false) (Rows.seqRowsSpec.post enc Tryz.prog Tryz.f8 false true false false) := by
  refine returnsInHanded_of_change_shaped (C := Tryz.checked) own_knob started (by kernel_rfl) Tryz.func8
    (ChangeSpec.witness6 (enc := enc) (C := Tryz.checked) false ⟨#[], #[.slice none 0 0], []⟩ 8 (by kernel_rfl) (by kernel_rfl) (by kernel_rfl) (by kernel_rfl)) ?_
  intro W base args ds gs before hval0 hW hcnd _ hsh _
  have hval : ∀ (j : Nat) t v, Tryz.f8.params[j]? = some t → args[j]? = some v → Value.okWide Tryz.prog W .any base t v := hval0
  have hW' := hW
  obtain ⟨p, q, hA0, hV, rfl, hfz, hnd⟩ := hW
  have hA : DataW.TrodAll enc Tryz.prog W 0 (fun _ => true) true Tryz.f8.params.toList args.toList ds p := hA0
  rw [Tryz.params8] at hA hval
  obtain ⟨v0, vs0, d0, ds0, p0, q0, hargs, rfl, rfl, h0, r0⟩ := trodAll_cons hA
  obtain ⟨rfl, rfl, rfl⟩ := trodAll_nil r0
  obtain rfl : args = #[v0] := by cases args; simp_all
  obtain ⟨rfl, rfl⟩ := trodVars_none hV
  have k0 := h0
  have lt0 : ∀ x ∈ p0, x.block < W.heap.size := by obtain ⟨m, hm⟩ := k0; exact DataW.trod_lt m _ _ _ hm
  obtain ⟨z0, w0⟩ := ints_in Tryz.underlying45 Tryz.underlying22 (by kernel_rfl) (hval 0 45 v0 rfl rfl) h0
  clear hA0 hval0
  refine (walk v0 z0 W w0 (MaxIs.of hsh)).mono fun e W' ⟨he, hg⟩ => ?_
  subst he
  exact ⟨_, rfl, _, _, _, [], _, [], hW', trodAll_mk1 (shut_bool Tryz.underlying4 _), (trodAll_cons_mk (Below.trod laidOut (by kernel_rfl) (of_decide_eq_true (by kernel_rfl)) k0 hg.below lt0) trodAll_mk0), rfl, hg.below.frame _, fun h => by cases h⟩

theorem over : Rows.seqRowsRow.holds Tryz.pinned (OpenSpec.ofChange Rows.seqRowsSpec) :=
  OpenClaim.holds_of_wide 8 Tryz.f8 rfl rfl rfl rfl rfl rfl rfl ⟨rfl, rfl, rfl, rfl, rfl⟩ rfl rfl rfl rfl rfl (by kernel_rfl) Tryz.func8 (by kernel_rfl)
    (of_decide_eq_true (by kernel_rfl)) (by unfold Func.isWrapper; first | (rw [if_pos (by decide +kernel)]; kernel_rfl) | (rw [if_neg (by decide +kernel)]; exact ⟨rfl, rfl⟩))
    (fun os started H enc _ => lifted os started H enc)

theorem proved : Rows.SeqRowsSaid :=
  over
#print axioms proved
end Go.Proofs.YteglbjcdlekbpaaGreat.seqRows
