/-
  No cell of these rows narrows 'for every input' (looked for: loops, veiled, ifaces, maps, wideKeys, modest, calm, conditions, laid).
  DERIVED. THE GIVEN ROWS OF THIS SEAT. 3 by the template 'for every input the law returns true; each argument reads behind the call as it read before'; 0 by the template 'total and deterministic' (their statements: YtpgkjgceldleaaaTotals.lean).
  GIVEN WITH THE SEED: the statements are not yours to turn. If you find one false, say at which input.
  Laid BY PROGRAM, IN A SANDBOX (cutbox-rows.mjs): the forced cells as the released guide's own fill.sh prints them over the translation d88c410bb0c10ee1… (all of the seat's roots in one cut). By AI agents, Wed Nov 11 2026. No macro, syntax, notation, axiom, sorry.
-/
import Derived.Test.YtpgkjgceldleaaaChecked
import GoSem.Claim
import GoSem.ClaimJoined
import GoSem.ClaimMapViews
import Derived.JoinedTies
import Derived.KernelRfl
namespace Go.Proofs.Ytpgkjgceldleaaa
/- THE CELL 'sum', in the pinned program and in every row, IS THE sha256 OF THE DUMP (.gsa) THAT YtpgkjgceldleaaaProg.lean LOADS. Nothing in Lean hashes anything: it is a label: what it is worth is what the hold of that sum in a sandbox is worth. -/
noncomputable def Try.pinned : Pinned := { name := "ytpgkjgceldleaaa", sum := "d88c410bb0c10ee11cd02bdb17d0df18f5464157be828142a904547a8e1743e4", checked := Try.checked }
namespace Rows
def none {H : Type} : Left H := { results := [], args := [] }

/-- 'tympanlaw22.BuildDeep': WHATEVER THE INPUT: true; the input reads as it did. -/
def buildDeepSpec : ChangeSpec := { name := "buildDeep", fn := fun _ => fun
  | [d1, d2] => { results := [.lit (.bool true)], args := [d1, d2] }
  | _ => none }
def buildDeepRow : OpenClaim := { program := "ytpgkjgceldleaaa", sum := "d88c410bb0c10ee11cd02bdb17d0df18f5464157be828142a904547a8e1743e4", func := "tympan/tympanlaw22.BuildDeep", spec := "buildDeep", unfollowed := true, recurses := true, plainKeys := false, apart := false }
def BuildDeepSaid : Prop := buildDeepRow.holds Try.pinned (OpenSpec.ofChange buildDeepSpec)

/-- ITS FALSE NEIGHBOUR: 'it returns false'. Refute it at one input. -/
def buildDeepWrong : ChangeSpec := { name := "buildDeep", fn := fun _ => fun
  | [d1, d2] => { results := [.lit (.bool false)], args := [d1, d2] }
  | _ => none }
def BuildDeepWrongFalsely : Prop := buildDeepRow.holds Try.pinned (OpenSpec.ofChange buildDeepWrong)

/-- 'tympanlaw22.BuildReads': WHATEVER THE INPUT: true; the input reads as it did. -/
def buildReadsSpec : ChangeSpec := { name := "buildReads", fn := fun _ => fun
  | [d] => { results := [.lit (.bool true)], args := [d] }
  | _ => none }
def buildReadsRow : OpenClaim := { program := "ytpgkjgceldleaaa", sum := "d88c410bb0c10ee11cd02bdb17d0df18f5464157be828142a904547a8e1743e4", func := "tympan/tympanlaw22.BuildReads", spec := "buildReads", unfollowed := true, recurses := true, plainKeys := false, apart := false }
def BuildReadsSaid : Prop := buildReadsRow.holds Try.pinned (OpenSpec.ofChange buildReadsSpec)

/-- ITS FALSE NEIGHBOUR: 'it returns false'. Refute it at one input. -/
def buildReadsWrong : ChangeSpec := { name := "buildReads", fn := fun _ => fun
  | [d] => { results := [.lit (.bool false)], args := [d] }
  | _ => none }
def BuildReadsWrongFalsely : Prop := buildReadsRow.holds Try.pinned (OpenSpec.ofChange buildReadsWrong)

/-- 'tympanlaw22.BuildBinds': WHATEVER THE INPUT: true; the input reads as it did. -/
def buildBindsSpec : ChangeSpec := { name := "buildBinds", fn := fun _ => fun
  | [d1, d2] => { results := [.lit (.bool true)], args := [d1, d2] }
  | _ => none }
def buildBindsRow : OpenClaim := { program := "ytpgkjgceldleaaa", sum := "d88c410bb0c10ee11cd02bdb17d0df18f5464157be828142a904547a8e1743e4", func := "tympan/tympanlaw22.BuildBinds", spec := "buildBinds", unfollowed := true, recurses := true, plainKeys := false, apart := false }
def BuildBindsSaid : Prop := buildBindsRow.holds Try.pinned (OpenSpec.ofChange buildBindsSpec)

/-- ITS FALSE NEIGHBOUR: 'it returns false'. Refute it at one input. -/
def buildBindsWrong : ChangeSpec := { name := "buildBinds", fn := fun _ => fun
  | [d1, d2] => { results := [.lit (.bool false)], args := [d1, d2] }
  | _ => none }
def BuildBindsWrongFalsely : Prop := buildBindsRow.holds Try.pinned (OpenSpec.ofChange buildBindsWrong)

/- THE SECOND FORM. 'bulk': how many values and letters a reading holds, each counted each time it is reached (what is shared counts as often as it is met; a slice's spare places count too). A statement '..UptoSaid' is the law's where the arguments, and the package variables that the reading takes, are together of bulk at most 1048576: NARROWER than '..Said'. Prove '..Said' where nothing that the law and all that it calls make is longer than what came in: it says more and counts as full. Else prove '..UptoSaid'. A law counts once. -/
mutual
def uptoBulk {H : Type} : DataW H → Nat
  | .lit (.string bytes) => bytes.length + 1
  | .lit _ => 1
  | .nil => 1
  | .ptr d => uptoBulk d + 1
  | .slice elems spare => uptoBulkAll elems + uptoBulkAll spare + 1
  | .agg parts => uptoBulkAll parts + 1
  | .iface _ d => uptoBulk d + 1
  | .map entries => uptoBulkEntries entries + 1
  | .held _ => 1
def uptoBulkAll {H : Type} : List (DataW H) → Nat
  | [] => 0
  | d :: r => uptoBulk d + uptoBulkAll r
def uptoBulkEntries {H : Type} : List (Lit × DataW H) → Nat
  | [] => 0
  | x :: r => uptoBulkEntry x + uptoBulkEntries r
def uptoBulkEntry {H : Type} : Lit × DataW H → Nat
  | (.string bytes, d) => bytes.length + uptoBulk d + 1
  | (_, d) => uptoBulk d + 1
 end
def uptoSmall : (H : Type) → List (DataW H) → Bool := fun _ ds => decide (uptoBulkAll ds ≤ 1048576)
def OpenSpec.upto (s : _root_.Go.ChangeSpec) : _root_.Go.OpenSpec := { _root_.Go.OpenSpec.ofChange s with cond := some uptoSmall }

/-- 'tympanlaw22.BuildDeep', WHERE WHAT IT READS IS OF BULK AT MOST 1048576: true; the input reads as it did. -/
def buildDeepUptoRow : OpenClaim := { program := "ytpgkjgceldleaaa", sum := "d88c410bb0c10ee11cd02bdb17d0df18f5464157be828142a904547a8e1743e4", func := "tympan/tympanlaw22.BuildDeep", spec := "buildDeep", unfollowed := true, recurses := true, plainKeys := false, apart := false, narrowed := true }
def BuildDeepUptoSaid : Prop := buildDeepUptoRow.holds Try.pinned (OpenSpec.upto buildDeepSpec)

/-- 'tympanlaw22.BuildReads', WHERE WHAT IT READS IS OF BULK AT MOST 1048576: true; the input reads as it did. -/
def buildReadsUptoRow : OpenClaim := { program := "ytpgkjgceldleaaa", sum := "d88c410bb0c10ee11cd02bdb17d0df18f5464157be828142a904547a8e1743e4", func := "tympan/tympanlaw22.BuildReads", spec := "buildReads", unfollowed := true, recurses := true, plainKeys := false, apart := false, narrowed := true }
def BuildReadsUptoSaid : Prop := buildReadsUptoRow.holds Try.pinned (OpenSpec.upto buildReadsSpec)

/-- 'tympanlaw22.BuildBinds', WHERE WHAT IT READS IS OF BULK AT MOST 1048576: true; the input reads as it did. -/
def buildBindsUptoRow : OpenClaim := { program := "ytpgkjgceldleaaa", sum := "d88c410bb0c10ee11cd02bdb17d0df18f5464157be828142a904547a8e1743e4", func := "tympan/tympanlaw22.BuildBinds", spec := "buildBinds", unfollowed := true, recurses := true, plainKeys := false, apart := false, narrowed := true }
def BuildBindsUptoSaid : Prop := buildBindsUptoRow.holds Try.pinned (OpenSpec.upto buildBindsSpec)

end Rows
end Go.Proofs.Ytpgkjgceldleaaa
