/-
  No cell of these rows narrows 'for every input' (looked for: loops, veiled, ifaces, maps, wideKeys, modest, calm, conditions, laid).
  DERIVED. THE GIVEN ROWS OF THIS SEAT. 8 by the template 'for every input the law returns true; each argument reads behind the call as it read before'; 0 by the template 'total and deterministic' (their statements: YtenlpkkeljhdeaaTotals.lean).
  GIVEN WITH THE SEED: the statements are not yours to turn. If you find one false, say at which input.
  Laid BY PROGRAM, IN A SANDBOX (cutbox-rows.mjs): the forced cells as the released guide's own fill.sh prints them over the translation f5a2fe5d8b37c158… (all of the seat's roots in one cut). By AI agents, Wed Nov 11 2026. No macro, syntax, notation, axiom, sorry.
-/
import Derived.Test.YtenlpkkeljhdeaaChecked
import GoSem.Claim
import GoSem.ClaimJoined
import GoSem.ClaimMapViews
import Derived.JoinedTies
import Derived.KernelRfl
namespace Go.Proofs.Ytenlpkkeljhdeaa
/- THE CELL 'sum', in the pinned program and in every row, IS THE sha256 OF THE DUMP (.gsa) THAT YtenlpkkeljhdeaaProg.lean LOADS. Nothing in Lean hashes anything: it is a label: what it is worth is what the hold of that sum in a sandbox is worth. -/
noncomputable def Try.pinned : Pinned := { name := "ytenlpkkeljhdeaa", sum := "f5a2fe5d8b37c1584ebfb0f28bf33cb3d2248dfc20d23a4eba3047cf4509b4ca", checked := Try.checked }
namespace Rows
def none {H : Type} : Left H := { results := [], args := [] }

/-- 'tympanlaw13.SaveMost': WHATEVER THE INPUT: true; the input reads as it did. -/
def saveMostSpec : ChangeSpec := { name := "saveMost", fn := fun _ => fun
  | [d] => { results := [.lit (.bool true)], args := [d] }
  | _ => none }
def saveMostRow : OpenClaim := { program := "ytenlpkkeljhdeaa", sum := "f5a2fe5d8b37c1584ebfb0f28bf33cb3d2248dfc20d23a4eba3047cf4509b4ca", func := "tympan/tympanlaw13.SaveMost", spec := "saveMost", apart := false }
def SaveMostSaid : Prop := saveMostRow.holds Try.pinned (OpenSpec.ofChange saveMostSpec)

/-- ITS FALSE NEIGHBOUR: 'it returns false'. Refute it at one input. -/
def saveMostWrong : ChangeSpec := { name := "saveMost", fn := fun _ => fun
  | [d] => { results := [.lit (.bool false)], args := [d] }
  | _ => none }
def SaveMostWrongFalsely : Prop := saveMostRow.holds Try.pinned (OpenSpec.ofChange saveMostWrong)

/-- 'tympanlaw13.SaveNewer': WHATEVER THE INPUT: true; the input reads as it did. -/
def saveNewerSpec : ChangeSpec := { name := "saveNewer", fn := fun _ => fun
  | [d1, d2] => { results := [.lit (.bool true)], args := [d1, d2] }
  | _ => none }
def saveNewerRow : OpenClaim := { program := "ytenlpkkeljhdeaa", sum := "f5a2fe5d8b37c1584ebfb0f28bf33cb3d2248dfc20d23a4eba3047cf4509b4ca", func := "tympan/tympanlaw13.SaveNewer", spec := "saveNewer", apart := false }
def SaveNewerSaid : Prop := saveNewerRow.holds Try.pinned (OpenSpec.ofChange saveNewerSpec)

/-- ITS FALSE NEIGHBOUR: 'it returns false'. Refute it at one input. -/
def saveNewerWrong : ChangeSpec := { name := "saveNewer", fn := fun _ => fun
  | [d1, d2] => { results := [.lit (.bool false)], args := [d1, d2] }
  | _ => none }
def SaveNewerWrongFalsely : Prop := saveNewerRow.holds Try.pinned (OpenSpec.ofChange saveNewerWrong)

/-- 'tympanlaw11.HeapShares': WHATEVER THE INPUT: true; the input reads as it did. -/
def heapSharesSpec : ChangeSpec := { name := "heapShares", fn := fun _ => fun
  | [d1, d2, d3, d4, d5] => { results := [.lit (.bool true)], args := [d1, d2, d3, d4, d5] }
  | _ => none }
def heapSharesRow : OpenClaim := { program := "ytenlpkkeljhdeaa", sum := "f5a2fe5d8b37c1584ebfb0f28bf33cb3d2248dfc20d23a4eba3047cf4509b4ca", func := "tympan/tympanlaw11.HeapShares", spec := "heapShares", apart := false }
def HeapSharesSaid : Prop := heapSharesRow.holds Try.pinned (OpenSpec.ofChange heapSharesSpec)

/-- ITS FALSE NEIGHBOUR: 'it returns false'. Refute it at one input. -/
def heapSharesWrong : ChangeSpec := { name := "heapShares", fn := fun _ => fun
  | [d1, d2, d3, d4, d5] => { results := [.lit (.bool false)], args := [d1, d2, d3, d4, d5] }
  | _ => none }
def HeapSharesWrongFalsely : Prop := heapSharesRow.holds Try.pinned (OpenSpec.ofChange heapSharesWrong)

/-- 'tympanlaw11.HeapMoves': WHATEVER THE INPUT: true; the input reads as it did. -/
def heapMovesSpec : ChangeSpec := { name := "heapMoves", fn := fun _ => fun
  | [d1, d2, d3, d4] => { results := [.lit (.bool true)], args := [d1, d2, d3, d4] }
  | _ => none }
def heapMovesRow : OpenClaim := { program := "ytenlpkkeljhdeaa", sum := "f5a2fe5d8b37c1584ebfb0f28bf33cb3d2248dfc20d23a4eba3047cf4509b4ca", func := "tympan/tympanlaw11.HeapMoves", spec := "heapMoves", apart := false }
def HeapMovesSaid : Prop := heapMovesRow.holds Try.pinned (OpenSpec.ofChange heapMovesSpec)

/-- ITS FALSE NEIGHBOUR: 'it returns false'. Refute it at one input. -/
def heapMovesWrong : ChangeSpec := { name := "heapMoves", fn := fun _ => fun
  | [d1, d2, d3, d4] => { results := [.lit (.bool false)], args := [d1, d2, d3, d4] }
  | _ => none }
def HeapMovesWrongFalsely : Prop := heapMovesRow.holds Try.pinned (OpenSpec.ofChange heapMovesWrong)

/-- 'tympanlaw11.HeapCopies': WHATEVER THE INPUT: true; the input reads as it did. -/
def heapCopiesSpec : ChangeSpec := { name := "heapCopies", fn := fun _ => fun
  | [d1, d2, d3] => { results := [.lit (.bool true)], args := [d1, d2, d3] }
  | _ => none }
def heapCopiesRow : OpenClaim := { program := "ytenlpkkeljhdeaa", sum := "f5a2fe5d8b37c1584ebfb0f28bf33cb3d2248dfc20d23a4eba3047cf4509b4ca", func := "tympan/tympanlaw11.HeapCopies", spec := "heapCopies", apart := false }
def HeapCopiesSaid : Prop := heapCopiesRow.holds Try.pinned (OpenSpec.ofChange heapCopiesSpec)

/-- ITS FALSE NEIGHBOUR: 'it returns false'. Refute it at one input. -/
def heapCopiesWrong : ChangeSpec := { name := "heapCopies", fn := fun _ => fun
  | [d1, d2, d3] => { results := [.lit (.bool false)], args := [d1, d2, d3] }
  | _ => none }
def HeapCopiesWrongFalsely : Prop := heapCopiesRow.holds Try.pinned (OpenSpec.ofChange heapCopiesWrong)

/-- 'tympanlaw11.HeapLocks': WHATEVER THE INPUT: true; the input reads as it did. -/
def heapLocksSpec : ChangeSpec := { name := "heapLocks", fn := fun _ => fun
  | [d1, d2, d3, d4] => { results := [.lit (.bool true)], args := [d1, d2, d3, d4] }
  | _ => none }
def heapLocksRow : OpenClaim := { program := "ytenlpkkeljhdeaa", sum := "f5a2fe5d8b37c1584ebfb0f28bf33cb3d2248dfc20d23a4eba3047cf4509b4ca", func := "tympan/tympanlaw11.HeapLocks", spec := "heapLocks", apart := false }
def HeapLocksSaid : Prop := heapLocksRow.holds Try.pinned (OpenSpec.ofChange heapLocksSpec)

/-- ITS FALSE NEIGHBOUR: 'it returns false'. Refute it at one input. -/
def heapLocksWrong : ChangeSpec := { name := "heapLocks", fn := fun _ => fun
  | [d1, d2, d3, d4] => { results := [.lit (.bool false)], args := [d1, d2, d3, d4] }
  | _ => none }
def HeapLocksWrongFalsely : Prop := heapLocksRow.holds Try.pinned (OpenSpec.ofChange heapLocksWrong)

/-- 'tympanlaw13.SaveBack': WHATEVER THE INPUT: true; the input reads as it did. -/
def saveBackSpec : ChangeSpec := { name := "saveBack", fn := fun _ => fun
  | [d1, d2, d3, d4] => { results := [.lit (.bool true)], args := [d1, d2, d3, d4] }
  | _ => none }
def saveBackRow : OpenClaim := { program := "ytenlpkkeljhdeaa", sum := "f5a2fe5d8b37c1584ebfb0f28bf33cb3d2248dfc20d23a4eba3047cf4509b4ca", func := "tympan/tympanlaw13.SaveBack", spec := "saveBack", apart := false }
def SaveBackSaid : Prop := saveBackRow.holds Try.pinned (OpenSpec.ofChange saveBackSpec)

/-- ITS FALSE NEIGHBOUR: 'it returns false'. Refute it at one input. -/
def saveBackWrong : ChangeSpec := { name := "saveBack", fn := fun _ => fun
  | [d1, d2, d3, d4] => { results := [.lit (.bool false)], args := [d1, d2, d3, d4] }
  | _ => none }
def SaveBackWrongFalsely : Prop := saveBackRow.holds Try.pinned (OpenSpec.ofChange saveBackWrong)

/-- 'tympanlaw11.HeapPlays': WHATEVER THE INPUT: true; the input reads as it did. -/
def heapPlaysSpec : ChangeSpec := { name := "heapPlays", fn := fun _ => fun
  | [d1, d2] => { results := [.lit (.bool true)], args := [d1, d2] }
  | _ => none }
def heapPlaysRow : OpenClaim := { program := "ytenlpkkeljhdeaa", sum := "f5a2fe5d8b37c1584ebfb0f28bf33cb3d2248dfc20d23a4eba3047cf4509b4ca", func := "tympan/tympanlaw11.HeapPlays", spec := "heapPlays", apart := false }
def HeapPlaysSaid : Prop := heapPlaysRow.holds Try.pinned (OpenSpec.ofChange heapPlaysSpec)

/-- ITS FALSE NEIGHBOUR: 'it returns false'. Refute it at one input. -/
def heapPlaysWrong : ChangeSpec := { name := "heapPlays", fn := fun _ => fun
  | [d1, d2] => { results := [.lit (.bool false)], args := [d1, d2] }
  | _ => none }
def HeapPlaysWrongFalsely : Prop := heapPlaysRow.holds Try.pinned (OpenSpec.ofChange heapPlaysWrong)

/- THE SECOND FORM. 'bulk': how many values and letters a reading holds, each counted each time it is reached (what is shared counts as often as it is met; a slice's spare places count too). A statement '..UptoSaid' is the law's where the arguments, and the package variables that the reading takes, are together of bulk at most 1048576: NARROWER than '..Said'. Prove '..Said' where nothing that the law and all that it calls make is longer than what came in: it says more and counts as full. Else prove '..UptoSaid'. A law counts once. -/
mutual
def uptoBulk {H : Type} : DataW H → Nat
  | .lit (.string bytes) => bytes.length + 1
  | .lit _ => 1
  | .nil => 1
  | .ptr d => uptoBulk d + 1
  | .slice elems spare => uptoBulkAll elems + uptoBulkAll spare + 1
  | .agg parts => uptoBulkAll parts + 1
  | .iface _ d => uptoBulk d + 1
  | .map entries => uptoBulkEntries entries + 1
  | .held _ => 1
def uptoBulkAll {H : Type} : List (DataW H) → Nat
  | [] => 0
  | d :: r => uptoBulk d + uptoBulkAll r
def uptoBulkEntries {H : Type} : List (Lit × DataW H) → Nat
  | [] => 0
  | x :: r => uptoBulkEntry x + uptoBulkEntries r
def uptoBulkEntry {H : Type} : Lit × DataW H → Nat
  | (.string bytes, d) => bytes.length + uptoBulk d + 1
  | (_, d) => uptoBulk d + 1
 end
def uptoSmall : (H : Type) → List (DataW H) → Bool := fun _ ds => decide (uptoBulkAll ds ≤ 1048576)
def OpenSpec.upto (s : _root_.Go.ChangeSpec) : _root_.Go.OpenSpec := { _root_.Go.OpenSpec.ofChange s with cond := some uptoSmall }

/-- 'tympanlaw13.SaveMost', WHERE WHAT IT READS IS OF BULK AT MOST 1048576: true; the input reads as it did. -/
def saveMostUptoRow : OpenClaim := { program := "ytenlpkkeljhdeaa", sum := "f5a2fe5d8b37c1584ebfb0f28bf33cb3d2248dfc20d23a4eba3047cf4509b4ca", func := "tympan/tympanlaw13.SaveMost", spec := "saveMost", apart := false, narrowed := true }
def SaveMostUptoSaid : Prop := saveMostUptoRow.holds Try.pinned (OpenSpec.upto saveMostSpec)

/-- 'tympanlaw13.SaveNewer', WHERE WHAT IT READS IS OF BULK AT MOST 1048576: true; the input reads as it did. -/
def saveNewerUptoRow : OpenClaim := { program := "ytenlpkkeljhdeaa", sum := "f5a2fe5d8b37c1584ebfb0f28bf33cb3d2248dfc20d23a4eba3047cf4509b4ca", func := "tympan/tympanlaw13.SaveNewer", spec := "saveNewer", apart := false, narrowed := true }
def SaveNewerUptoSaid : Prop := saveNewerUptoRow.holds Try.pinned (OpenSpec.upto saveNewerSpec)

/-- 'tympanlaw11.HeapShares', WHERE WHAT IT READS IS OF BULK AT MOST 1048576: true; the input reads as it did. -/
def heapSharesUptoRow : OpenClaim := { program := "ytenlpkkeljhdeaa", sum := "f5a2fe5d8b37c1584ebfb0f28bf33cb3d2248dfc20d23a4eba3047cf4509b4ca", func := "tympan/tympanlaw11.HeapShares", spec := "heapShares", apart := false, narrowed := true }
def HeapSharesUptoSaid : Prop := heapSharesUptoRow.holds Try.pinned (OpenSpec.upto heapSharesSpec)

/-- 'tympanlaw11.HeapMoves', WHERE WHAT IT READS IS OF BULK AT MOST 1048576: true; the input reads as it did. -/
def heapMovesUptoRow : OpenClaim := { program := "ytenlpkkeljhdeaa", sum := "f5a2fe5d8b37c1584ebfb0f28bf33cb3d2248dfc20d23a4eba3047cf4509b4ca", func := "tympan/tympanlaw11.HeapMoves", spec := "heapMoves", apart := false, narrowed := true }
def HeapMovesUptoSaid : Prop := heapMovesUptoRow.holds Try.pinned (OpenSpec.upto heapMovesSpec)

/-- 'tympanlaw11.HeapCopies', WHERE WHAT IT READS IS OF BULK AT MOST 1048576: true; the input reads as it did. -/
def heapCopiesUptoRow : OpenClaim := { program := "ytenlpkkeljhdeaa", sum := "f5a2fe5d8b37c1584ebfb0f28bf33cb3d2248dfc20d23a4eba3047cf4509b4ca", func := "tympan/tympanlaw11.HeapCopies", spec := "heapCopies", apart := false, narrowed := true }
def HeapCopiesUptoSaid : Prop := heapCopiesUptoRow.holds Try.pinned (OpenSpec.upto heapCopiesSpec)

/-- 'tympanlaw11.HeapLocks', WHERE WHAT IT READS IS OF BULK AT MOST 1048576: true; the input reads as it did. -/
def heapLocksUptoRow : OpenClaim := { program := "ytenlpkkeljhdeaa", sum := "f5a2fe5d8b37c1584ebfb0f28bf33cb3d2248dfc20d23a4eba3047cf4509b4ca", func := "tympan/tympanlaw11.HeapLocks", spec := "heapLocks", apart := false, narrowed := true }
def HeapLocksUptoSaid : Prop := heapLocksUptoRow.holds Try.pinned (OpenSpec.upto heapLocksSpec)

/-- 'tympanlaw13.SaveBack', WHERE WHAT IT READS IS OF BULK AT MOST 1048576: true; the input reads as it did. -/
def saveBackUptoRow : OpenClaim := { program := "ytenlpkkeljhdeaa", sum := "f5a2fe5d8b37c1584ebfb0f28bf33cb3d2248dfc20d23a4eba3047cf4509b4ca", func := "tympan/tympanlaw13.SaveBack", spec := "saveBack", apart := false, narrowed := true }
def SaveBackUptoSaid : Prop := saveBackUptoRow.holds Try.pinned (OpenSpec.upto saveBackSpec)

/-- 'tympanlaw11.HeapPlays', WHERE WHAT IT READS IS OF BULK AT MOST 1048576: true; the input reads as it did. -/
def heapPlaysUptoRow : OpenClaim := { program := "ytenlpkkeljhdeaa", sum := "f5a2fe5d8b37c1584ebfb0f28bf33cb3d2248dfc20d23a4eba3047cf4509b4ca", func := "tympan/tympanlaw11.HeapPlays", spec := "heapPlays", apart := false, narrowed := true }
def HeapPlaysUptoSaid : Prop := heapPlaysUptoRow.holds Try.pinned (OpenSpec.upto heapPlaysSpec)

end Rows
end Go.Proofs.Ytenlpkkeljhdeaa
