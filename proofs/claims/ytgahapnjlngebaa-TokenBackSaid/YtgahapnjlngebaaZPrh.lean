/- Walk: token.Print where all words may be. -/
import Derived.Test.YtgahapnjlngebaaZPra
import Derived.Test.YtgahapnjlngebaaZSayc
namespace Go.Proofs.Ytgahapnjlngebaa
open Go.RowKit

set_option maxRecDepth 100000 in
set_option maxHeartbeats 1000000 in
/-- No word at all. -/
theorem print_none {w : World} {v : Value} (hv : ToksAt w v []) :
    Calls Try.prog 15 #[v] w fun r w' => r = .returned (.tuple #[.string ⟨#[]⟩, .int .i64 0]) ∧ Chg NoB w w' := by
  obtain ⟨a, c, rfl, hc, hv⟩ := hv
  clear hv
  have HCV : ∀ w, (convert 35 9 (.slice none 0 0)).run Try.prog w = .ok (.string ⟨#[]⟩) w := fun w => own_strF (B := 0) (b := []) (World.ownsRow_nil _ _ _ _)
  go_enter Try.func15, Try.ntmps15
  go_wp2_with fail
  go_loopw [11] (fun iv wr => iv = .int .i64 0 ∧ Chg NoB w wr) (fun iv _ => 1 - (intOf iv).toNat)
  case atStart => exact ⟨rfl, Chg.refl _ _⟩
  case round =>
    obtain ⟨rfl, X⟩ := hrel
    go_wp2_with fail
    go_loopw [24, 6] (fun iv ov wr => iv = .int .i64 0 ∧ ov = .slice none 0 0 ∧ Chg NoB w wr) (fun iv _ _ => 1 - (intOf iv).toNat)
    case atStart => exact ⟨rfl, rfl, X⟩
    case round =>
      obtain ⟨rfl, rfl, X2⟩ := hrel
      go_wp2_with fail
      refine bodyPost_ret (v := .tuple #[.string ⟨#[]⟩, .int .i64 0]) (by simp [results, Try.results15, go_sem]) rfl ?_
      exact ⟨rfl, X2⟩
end Go.Proofs.Ytgahapnjlngebaa
