/-
  No cell of these rows narrows 'for every input' (looked for: loops, veiled, ifaces, maps, wideKeys, modest, calm, conditions, laid).
  DERIVED. THE GIVEN ROWS OF THIS SEAT. 4 by the template 'for every input the law returns true; each argument reads behind the call as it read before'; 0 by the template 'total and deterministic' (their statements: YtgahapnjlngebaaTotals.lean).
  GIVEN WITH THE SEED: the statements are not yours to turn. If you find one false, say at which input.
  Laid BY PROGRAM, IN A SANDBOX (cutbox-rows.mjs): the forced cells as the released guide's own fill.sh prints them over the translation d96565d874313f42… (all of the seat's roots in one cut). By AI agents, Wed Nov 11 2026. No macro, syntax, notation, axiom, sorry.
-/
import Derived.Test.YtgahapnjlngebaaChecked
import GoSem.Claim
import GoSem.ClaimJoined
import GoSem.ClaimMapViews
import Derived.JoinedTies
import Derived.KernelRfl
namespace Go.Proofs.Ytgahapnjlngebaa
/- THE CELL 'sum', in the pinned program and in every row, IS THE sha256 OF THE DUMP (.gsa) THAT YtgahapnjlngebaaProg.lean LOADS. Nothing in Lean hashes anything: it is a label: what it is worth is what the hold of that sum in a sandbox is worth. -/
noncomputable def Try.pinned : Pinned := { name := "ytgahapnjlngebaa", sum := "d96565d874313f42b9af10823c7563dffd783a5e028685ac302197e364ad266d", checked := Try.checked }
namespace Rows
def none {H : Type} : Left H := { results := [], args := [] }

/-- 'tympanlaw8.TokenTells': WHATEVER THE INPUT: true; the input reads as it did. -/
def tokenTellsSpec : ChangeSpec := { name := "tokenTells", fn := fun _ => fun
  | [d1, d2] => { results := [.lit (.bool true)], args := [d1, d2] }
  | _ => none }
def tokenTellsRow : OpenClaim := { program := "ytgahapnjlngebaa", sum := "d96565d874313f42b9af10823c7563dffd783a5e028685ac302197e364ad266d", func := "tympan/tympanlaw8.TokenTells", spec := "tokenTells", unfollowed := true, recurses := true, named := ["math/bits.divideError", "math/bits.overflowError"], apart := false }
def TokenTellsSaid : Prop := tokenTellsRow.holds Try.pinned (OpenSpec.ofChange tokenTellsSpec)

/-- ITS FALSE NEIGHBOUR: 'it returns false'. Refute it at one input. -/
def tokenTellsWrong : ChangeSpec := { name := "tokenTells", fn := fun _ => fun
  | [d1, d2] => { results := [.lit (.bool false)], args := [d1, d2] }
  | _ => none }
def TokenTellsWrongFalsely : Prop := tokenTellsRow.holds Try.pinned (OpenSpec.ofChange tokenTellsWrong)

/-- 'tympanlaw8.TokenBlanks': WHATEVER THE INPUT: true; the input reads as it did. -/
def tokenBlanksSpec : ChangeSpec := { name := "tokenBlanks", fn := fun _ => fun
  | [d1, d2, d3] => { results := [.lit (.bool true)], args := [d1, d2, d3] }
  | _ => none }
def tokenBlanksRow : OpenClaim := { program := "ytgahapnjlngebaa", sum := "d96565d874313f42b9af10823c7563dffd783a5e028685ac302197e364ad266d", func := "tympan/tympanlaw8.TokenBlanks", spec := "tokenBlanks", unfollowed := true, recurses := true, named := ["math/bits.divideError", "math/bits.overflowError"], apart := false }
def TokenBlanksSaid : Prop := tokenBlanksRow.holds Try.pinned (OpenSpec.ofChange tokenBlanksSpec)

/-- ITS FALSE NEIGHBOUR: 'it returns false'. Refute it at one input. -/
def tokenBlanksWrong : ChangeSpec := { name := "tokenBlanks", fn := fun _ => fun
  | [d1, d2, d3] => { results := [.lit (.bool false)], args := [d1, d2, d3] }
  | _ => none }
def TokenBlanksWrongFalsely : Prop := tokenBlanksRow.holds Try.pinned (OpenSpec.ofChange tokenBlanksWrong)

/-- 'tympanlaw8.TokenBack': WHATEVER THE INPUT: true; the input reads as it did. -/
def tokenBackSpec : ChangeSpec := { name := "tokenBack", fn := fun _ => fun
  | [d1, d2] => { results := [.lit (.bool true)], args := [d1, d2] }
  | _ => none }
def tokenBackRow : OpenClaim := { program := "ytgahapnjlngebaa", sum := "d96565d874313f42b9af10823c7563dffd783a5e028685ac302197e364ad266d", func := "tympan/tympanlaw8.TokenBack", spec := "tokenBack", unfollowed := true, recurses := true, apart := false }
def TokenBackSaid : Prop := tokenBackRow.holds Try.pinned (OpenSpec.ofChange tokenBackSpec)

/-- ITS FALSE NEIGHBOUR: 'it returns false'. Refute it at one input. -/
def tokenBackWrong : ChangeSpec := { name := "tokenBack", fn := fun _ => fun
  | [d1, d2] => { results := [.lit (.bool false)], args := [d1, d2] }
  | _ => none }
def TokenBackWrongFalsely : Prop := tokenBackRow.holds Try.pinned (OpenSpec.ofChange tokenBackWrong)

/-- 'tympanlaw8.TokenPrints': WHATEVER THE INPUT: true; the input reads as it did. -/
def tokenPrintsSpec : ChangeSpec := { name := "tokenPrints", fn := fun _ => fun
  | [d] => { results := [.lit (.bool true)], args := [d] }
  | _ => none }
def tokenPrintsRow : OpenClaim := { program := "ytgahapnjlngebaa", sum := "d96565d874313f42b9af10823c7563dffd783a5e028685ac302197e364ad266d", func := "tympan/tympanlaw8.TokenPrints", spec := "tokenPrints", unfollowed := true, recurses := true, named := ["math/bits.divideError", "math/bits.overflowError"], apart := false }
def TokenPrintsSaid : Prop := tokenPrintsRow.holds Try.pinned (OpenSpec.ofChange tokenPrintsSpec)

/-- ITS FALSE NEIGHBOUR: 'it returns false'. Refute it at one input. -/
def tokenPrintsWrong : ChangeSpec := { name := "tokenPrints", fn := fun _ => fun
  | [d] => { results := [.lit (.bool false)], args := [d] }
  | _ => none }
def TokenPrintsWrongFalsely : Prop := tokenPrintsRow.holds Try.pinned (OpenSpec.ofChange tokenPrintsWrong)

/- THE SECOND FORM. 'bulk': how many values and letters a reading holds, each counted each time it is reached (what is shared counts as often as it is met; a slice's spare places count too). A statement '..UptoSaid' is the law's where the arguments, and the package variables that the reading takes, are together of bulk at most 1048576: NARROWER than '..Said'. Prove '..Said' where nothing that the law and all that it calls make is longer than what came in: it says more and counts as full. Else prove '..UptoSaid'. A law counts once. -/
mutual
def uptoBulk {H : Type} : DataW H → Nat
  | .lit (.string bytes) => bytes.length + 1
  | .lit _ => 1
  | .nil => 1
  | .ptr d => uptoBulk d + 1
  | .slice elems spare => uptoBulkAll elems + uptoBulkAll spare + 1
  | .agg parts => uptoBulkAll parts + 1
  | .iface _ d => uptoBulk d + 1
  | .map entries => uptoBulkEntries entries + 1
  | .held _ => 1
def uptoBulkAll {H : Type} : List (DataW H) → Nat
  | [] => 0
  | d :: r => uptoBulk d + uptoBulkAll r
def uptoBulkEntries {H : Type} : List (Lit × DataW H) → Nat
  | [] => 0
  | x :: r => uptoBulkEntry x + uptoBulkEntries r
def uptoBulkEntry {H : Type} : Lit × DataW H → Nat
  | (.string bytes, d) => bytes.length + uptoBulk d + 1
  | (_, d) => uptoBulk d + 1
 end
def uptoSmall : (H : Type) → List (DataW H) → Bool := fun _ ds => decide (uptoBulkAll ds ≤ 1048576)
def OpenSpec.upto (s : _root_.Go.ChangeSpec) : _root_.Go.OpenSpec := { _root_.Go.OpenSpec.ofChange s with cond := some uptoSmall }

/-- 'tympanlaw8.TokenTells', WHERE WHAT IT READS IS OF BULK AT MOST 1048576: true; the input reads as it did. -/
def tokenTellsUptoRow : OpenClaim := { program := "ytgahapnjlngebaa", sum := "d96565d874313f42b9af10823c7563dffd783a5e028685ac302197e364ad266d", func := "tympan/tympanlaw8.TokenTells", spec := "tokenTells", unfollowed := true, recurses := true, named := ["math/bits.divideError", "math/bits.overflowError"], apart := false, narrowed := true }
def TokenTellsUptoSaid : Prop := tokenTellsUptoRow.holds Try.pinned (OpenSpec.upto tokenTellsSpec)

/-- 'tympanlaw8.TokenBlanks', WHERE WHAT IT READS IS OF BULK AT MOST 1048576: true; the input reads as it did. -/
def tokenBlanksUptoRow : OpenClaim := { program := "ytgahapnjlngebaa", sum := "d96565d874313f42b9af10823c7563dffd783a5e028685ac302197e364ad266d", func := "tympan/tympanlaw8.TokenBlanks", spec := "tokenBlanks", unfollowed := true, recurses := true, named := ["math/bits.divideError", "math/bits.overflowError"], apart := false, narrowed := true }
def TokenBlanksUptoSaid : Prop := tokenBlanksUptoRow.holds Try.pinned (OpenSpec.upto tokenBlanksSpec)

/-- 'tympanlaw8.TokenBack', WHERE WHAT IT READS IS OF BULK AT MOST 1048576: true; the input reads as it did. -/
def tokenBackUptoRow : OpenClaim := { program := "ytgahapnjlngebaa", sum := "d96565d874313f42b9af10823c7563dffd783a5e028685ac302197e364ad266d", func := "tympan/tympanlaw8.TokenBack", spec := "tokenBack", unfollowed := true, recurses := true, apart := false, narrowed := true }
def TokenBackUptoSaid : Prop := tokenBackUptoRow.holds Try.pinned (OpenSpec.upto tokenBackSpec)

/-- 'tympanlaw8.TokenPrints', WHERE WHAT IT READS IS OF BULK AT MOST 1048576: true; the input reads as it did. -/
def tokenPrintsUptoRow : OpenClaim := { program := "ytgahapnjlngebaa", sum := "d96565d874313f42b9af10823c7563dffd783a5e028685ac302197e364ad266d", func := "tympan/tympanlaw8.TokenPrints", spec := "tokenPrints", unfollowed := true, recurses := true, named := ["math/bits.divideError", "math/bits.overflowError"], apart := false, narrowed := true }
def TokenPrintsUptoSaid : Prop := tokenPrintsUptoRow.holds Try.pinned (OpenSpec.upto tokenPrintsSpec)

end Rows
end Go.Proofs.Ytgahapnjlngebaa
