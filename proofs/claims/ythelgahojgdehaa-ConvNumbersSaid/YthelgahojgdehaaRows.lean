/-
  No cell of these rows narrows 'for every input' (looked for: loops, veiled, ifaces, maps, wideKeys, modest, calm, conditions, laid).
  DERIVED. THE GIVEN ROWS OF THIS SEAT. 4 by the template 'for every input the law returns true; each argument reads behind the call as it read before'; 0 by the template 'total and deterministic' (their statements: YthelgahojgdehaaTotals.lean).
  GIVEN WITH THE SEED: the statements are not yours to turn. If you find one false, say at which input.
  Laid BY PROGRAM, IN A SANDBOX (cutbox-rows.mjs): the forced cells as the released guide's own fill.sh prints them over the translation b49685aab77a96c8… (all of the seat's roots in one cut). By AI agents, Wed Nov 11 2026. No macro, syntax, notation, axiom, sorry.
-/
import Derived.Test.YthelgahojgdehaaChecked
import GoSem.Claim
import GoSem.ClaimJoined
import GoSem.ClaimMapViews
import Derived.JoinedTies
import Derived.KernelRfl
namespace Go.Proofs.Ythelgahojgdehaa
/- THE CELL 'sum', in the pinned program and in every row, IS THE sha256 OF THE DUMP (.gsa) THAT YthelgahojgdehaaProg.lean LOADS. Nothing in Lean hashes anything: it is a label: what it is worth is what the hold of that sum in a sandbox is worth. -/
noncomputable def Try.pinned : Pinned := { name := "ythelgahojgdehaa", sum := "b49685aab77a96c8476a814999683288832f648f10d8eb5e74cf0009aab0818b", checked := Try.checked }
namespace Rows
def none {H : Type} : Left H := { results := [], args := [] }

/-- 'tympanlaw21.ConvNumbers': WHATEVER THE INPUT: true; the input reads as it did. -/
def convNumbersSpec : ChangeSpec := { name := "convNumbers", fn := fun _ => fun
  | [d1, d2, d3] => { results := [.lit (.bool true)], args := [d1, d2, d3] }
  | _ => none }
def convNumbersRow : OpenClaim := { program := "ythelgahojgdehaa", sum := "b49685aab77a96c8476a814999683288832f648f10d8eb5e74cf0009aab0818b", func := "tympan/tympanlaw21.ConvNumbers", spec := "convNumbers", unfollowed := true, recurses := true, apart := false }
def ConvNumbersSaid : Prop := convNumbersRow.holds Try.pinned (OpenSpec.ofChange convNumbersSpec)

/-- ITS FALSE NEIGHBOUR: 'it returns false'. Refute it at one input. -/
def convNumbersWrong : ChangeSpec := { name := "convNumbers", fn := fun _ => fun
  | [d1, d2, d3] => { results := [.lit (.bool false)], args := [d1, d2, d3] }
  | _ => none }
def ConvNumbersWrongFalsely : Prop := convNumbersRow.holds Try.pinned (OpenSpec.ofChange convNumbersWrong)

/-- 'tympanlaw21.ConvBases': WHATEVER THE INPUT: true; the input reads as it did. -/
def convBasesSpec : ChangeSpec := { name := "convBases", fn := fun _ => fun
  | [d1, d2] => { results := [.lit (.bool true)], args := [d1, d2] }
  | _ => none }
def convBasesRow : OpenClaim := { program := "ythelgahojgdehaa", sum := "b49685aab77a96c8476a814999683288832f648f10d8eb5e74cf0009aab0818b", func := "tympan/tympanlaw21.ConvBases", spec := "convBases", unfollowed := true, recurses := true, apart := false }
def ConvBasesSaid : Prop := convBasesRow.holds Try.pinned (OpenSpec.ofChange convBasesSpec)

/-- ITS FALSE NEIGHBOUR: 'it returns false'. Refute it at one input. -/
def convBasesWrong : ChangeSpec := { name := "convBases", fn := fun _ => fun
  | [d1, d2] => { results := [.lit (.bool false)], args := [d1, d2] }
  | _ => none }
def ConvBasesWrongFalsely : Prop := convBasesRow.holds Try.pinned (OpenSpec.ofChange convBasesWrong)

/-- 'tympanlaw21.ConvWhole': WHATEVER THE INPUT: true; the input reads as it did. -/
def convWholeSpec : ChangeSpec := { name := "convWhole", fn := fun _ => fun
  | [d1, d2] => { results := [.lit (.bool true)], args := [d1, d2] }
  | _ => none }
def convWholeRow : OpenClaim := { program := "ythelgahojgdehaa", sum := "b49685aab77a96c8476a814999683288832f648f10d8eb5e74cf0009aab0818b", func := "tympan/tympanlaw21.ConvWhole", spec := "convWhole", unfollowed := true, recurses := true, apart := false }
def ConvWholeSaid : Prop := convWholeRow.holds Try.pinned (OpenSpec.ofChange convWholeSpec)

/-- ITS FALSE NEIGHBOUR: 'it returns false'. Refute it at one input. -/
def convWholeWrong : ChangeSpec := { name := "convWhole", fn := fun _ => fun
  | [d1, d2] => { results := [.lit (.bool false)], args := [d1, d2] }
  | _ => none }
def ConvWholeWrongFalsely : Prop := convWholeRow.holds Try.pinned (OpenSpec.ofChange convWholeWrong)

/-- 'tympanlaw21.ConvNames': WHATEVER THE INPUT: true; the input reads as it did. -/
def convNamesSpec : ChangeSpec := { name := "convNames", fn := fun _ => fun
  | [d1, d2] => { results := [.lit (.bool true)], args := [d1, d2] }
  | _ => none }
def convNamesRow : OpenClaim := { program := "ythelgahojgdehaa", sum := "b49685aab77a96c8476a814999683288832f648f10d8eb5e74cf0009aab0818b", func := "tympan/tympanlaw21.ConvNames", spec := "convNames", unfollowed := true, recurses := true, apart := false }
def ConvNamesSaid : Prop := convNamesRow.holds Try.pinned (OpenSpec.ofChange convNamesSpec)

/-- ITS FALSE NEIGHBOUR: 'it returns false'. Refute it at one input. -/
def convNamesWrong : ChangeSpec := { name := "convNames", fn := fun _ => fun
  | [d1, d2] => { results := [.lit (.bool false)], args := [d1, d2] }
  | _ => none }
def ConvNamesWrongFalsely : Prop := convNamesRow.holds Try.pinned (OpenSpec.ofChange convNamesWrong)

/- THE SECOND FORM. 'bulk': how many values and letters a reading holds, each counted each time it is reached (what is shared counts as often as it is met; a slice's spare places count too). A statement '..UptoSaid' is the law's where the arguments, and the package variables that the reading takes, are together of bulk at most 1048576: NARROWER than '..Said'. Prove '..Said' where nothing that the law and all that it calls make is longer than what came in: it says more and counts as full. Else prove '..UptoSaid'. A law counts once. -/
mutual
def uptoBulk {H : Type} : DataW H → Nat
  | .lit (.string bytes) => bytes.length + 1
  | .lit _ => 1
  | .nil => 1
  | .ptr d => uptoBulk d + 1
  | .slice elems spare => uptoBulkAll elems + uptoBulkAll spare + 1
  | .agg parts => uptoBulkAll parts + 1
  | .iface _ d => uptoBulk d + 1
  | .map entries => uptoBulkEntries entries + 1
  | .held _ => 1
def uptoBulkAll {H : Type} : List (DataW H) → Nat
  | [] => 0
  | d :: r => uptoBulk d + uptoBulkAll r
def uptoBulkEntries {H : Type} : List (Lit × DataW H) → Nat
  | [] => 0
  | x :: r => uptoBulkEntry x + uptoBulkEntries r
def uptoBulkEntry {H : Type} : Lit × DataW H → Nat
  | (.string bytes, d) => bytes.length + uptoBulk d + 1
  | (_, d) => uptoBulk d + 1
 end
def uptoSmall : (H : Type) → List (DataW H) → Bool := fun _ ds => decide (uptoBulkAll ds ≤ 1048576)
def OpenSpec.upto (s : _root_.Go.ChangeSpec) : _root_.Go.OpenSpec := { _root_.Go.OpenSpec.ofChange s with cond := some uptoSmall }

/-- 'tympanlaw21.ConvNumbers', WHERE WHAT IT READS IS OF BULK AT MOST 1048576: true; the input reads as it did. -/
def convNumbersUptoRow : OpenClaim := { program := "ythelgahojgdehaa", sum := "b49685aab77a96c8476a814999683288832f648f10d8eb5e74cf0009aab0818b", func := "tympan/tympanlaw21.ConvNumbers", spec := "convNumbers", unfollowed := true, recurses := true, apart := false, narrowed := true }
def ConvNumbersUptoSaid : Prop := convNumbersUptoRow.holds Try.pinned (OpenSpec.upto convNumbersSpec)

/-- 'tympanlaw21.ConvBases', WHERE WHAT IT READS IS OF BULK AT MOST 1048576: true; the input reads as it did. -/
def convBasesUptoRow : OpenClaim := { program := "ythelgahojgdehaa", sum := "b49685aab77a96c8476a814999683288832f648f10d8eb5e74cf0009aab0818b", func := "tympan/tympanlaw21.ConvBases", spec := "convBases", unfollowed := true, recurses := true, apart := false, narrowed := true }
def ConvBasesUptoSaid : Prop := convBasesUptoRow.holds Try.pinned (OpenSpec.upto convBasesSpec)

/-- 'tympanlaw21.ConvWhole', WHERE WHAT IT READS IS OF BULK AT MOST 1048576: true; the input reads as it did. -/
def convWholeUptoRow : OpenClaim := { program := "ythelgahojgdehaa", sum := "b49685aab77a96c8476a814999683288832f648f10d8eb5e74cf0009aab0818b", func := "tympan/tympanlaw21.ConvWhole", spec := "convWhole", unfollowed := true, recurses := true, apart := false, narrowed := true }
def ConvWholeUptoSaid : Prop := convWholeUptoRow.holds Try.pinned (OpenSpec.upto convWholeSpec)

/-- 'tympanlaw21.ConvNames', WHERE WHAT IT READS IS OF BULK AT MOST 1048576: true; the input reads as it did. -/
def convNamesUptoRow : OpenClaim := { program := "ythelgahojgdehaa", sum := "b49685aab77a96c8476a814999683288832f648f10d8eb5e74cf0009aab0818b", func := "tympan/tympanlaw21.ConvNames", spec := "convNames", unfollowed := true, recurses := true, apart := false, narrowed := true }
def ConvNamesUptoSaid : Prop := convNamesUptoRow.holds Try.pinned (OpenSpec.upto convNamesSpec)

end Rows
end Go.Proofs.Ythelgahojgdehaa
