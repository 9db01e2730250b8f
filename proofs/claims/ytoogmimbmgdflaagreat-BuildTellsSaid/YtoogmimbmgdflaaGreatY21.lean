/- Parts of the proof: Sky. -/
import Derived.Test.YtoogmimbmgdflaaGreatY15
import Derived.Test.YtoogmimbmgdflaaGreatY16
namespace Go.Proofs.YtoogmimbmgdflaaGreat
open Go.RowKit
abbrev int1 : O := ⟨3, false, 1, 0, 0, ⟨#[]⟩⟩
abbrev nameB : O := ⟨5, false, 0, 0, 0, ⟨#[98]⟩⟩
theorem intL_1 : intL 1 = [49] := by
 unfold intL; rw [if_neg (by decide), decL_lo _ (by decide)]; rfl
end Go.Proofs.YtoogmimbmgdflaaGreat
