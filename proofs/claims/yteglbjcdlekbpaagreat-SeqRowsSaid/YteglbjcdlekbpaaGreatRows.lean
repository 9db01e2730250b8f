/-
  No cell of these rows narrows 'for every input' (looked for: loops, veiled, ifaces, maps, wideKeys, modest, calm, conditions, laid).
  DERIVED. THE GIVEN ROWS OF THIS SEAT. 8 by the template 'for every input the law returns true; each argument reads behind the call as it read before'; 0 by the template 'total and deterministic' (their statements: YteglbjcdlekbpaaGreatTotals.lean).
  GIVEN WITH THE SEED: the statements are not yours to turn. If you find one false, say at which input.
  Laid BY PROGRAM, IN A SANDBOX (cutbox-rows.mjs): the forced cells as the released guide's own fill.sh prints them over the translation 87452e8bd811aaf0… (all of the seat's roots in one cut). By AI agents, Wed Nov 11 2026. No macro, syntax, notation, axiom, sorry.
-/
import Derived.Test.YteglbjcdlekbpaaGreatChecked
import GoSem.Claim
import GoSem.ClaimJoined
import GoSem.ClaimMapViews
import Derived.JoinedTies
import Derived.KernelRfl
namespace Go.Proofs.YteglbjcdlekbpaaGreat
/- THE CELL 'sum', in the pinned program and in every row, IS THE sha256 OF THE DUMP (.gsa) THAT YteglbjcdlekbpaaGreatProg.lean LOADS. Nothing in Lean hashes anything: it is a label: what it is worth is what the hold of that sum in a sandbox is worth. -/
noncomputable def Tryz.pinned : Pinned := { name := "yteglbjcdlekbpaagreat", sum := "87452e8bd811aaf0ed8eddeabb07ec39c1514a297183e27b38f2fc729c171b81", checked := Tryz.checked }
namespace Rows
def none {H : Type} : Left H := { results := [], args := [] }

/-- 'tympanlaw20.TableDefines': WHATEVER THE INPUT: true; the input reads as it did. -/
def tableDefinesSpec : ChangeSpec := { name := "tableDefines", fn := fun _ => fun
  | [d1, d2, d3, d4] => { results := [.lit (.bool true)], args := [d1, d2, d3, d4] }
  | _ => none }
def tableDefinesRow : OpenClaim := { program := "yteglbjcdlekbpaagreat", sum := "87452e8bd811aaf0ed8eddeabb07ec39c1514a297183e27b38f2fc729c171b81", func := "tympan/tympanlaw20.TableDefines", spec := "tableDefines", unfollowed := true, recurses := true, plainKeys := false, apart := false }
def TableDefinesSaid : Prop := tableDefinesRow.holds Tryz.pinned (OpenSpec.ofChange tableDefinesSpec)

/-- ITS FALSE NEIGHBOUR: 'it returns false'. Refute it at one input. -/
def tableDefinesWrong : ChangeSpec := { name := "tableDefines", fn := fun _ => fun
  | [d1, d2, d3, d4] => { results := [.lit (.bool false)], args := [d1, d2, d3, d4] }
  | _ => none }
def TableDefinesWrongFalsely : Prop := tableDefinesRow.holds Tryz.pinned (OpenSpec.ofChange tableDefinesWrong)

/-- 'tympanlaw20.TableWhole': WHATEVER THE INPUT: true; the input reads as it did. -/
def tableWholeSpec : ChangeSpec := { name := "tableWhole", fn := fun _ => fun
  | [d1, d2, d3] => { results := [.lit (.bool true)], args := [d1, d2, d3] }
  | _ => none }
def tableWholeRow : OpenClaim := { program := "yteglbjcdlekbpaagreat", sum := "87452e8bd811aaf0ed8eddeabb07ec39c1514a297183e27b38f2fc729c171b81", func := "tympan/tympanlaw20.TableWhole", spec := "tableWhole", unfollowed := true, recurses := true, plainKeys := false, apart := false }
def TableWholeSaid : Prop := tableWholeRow.holds Tryz.pinned (OpenSpec.ofChange tableWholeSpec)

/-- ITS FALSE NEIGHBOUR: 'it returns false'. Refute it at one input. -/
def tableWholeWrong : ChangeSpec := { name := "tableWhole", fn := fun _ => fun
  | [d1, d2, d3] => { results := [.lit (.bool false)], args := [d1, d2, d3] }
  | _ => none }
def TableWholeWrongFalsely : Prop := tableWholeRow.holds Tryz.pinned (OpenSpec.ofChange tableWholeWrong)

/-- 'tympanlaw20.TableRefuses': WHATEVER THE INPUT: true; the input reads as it did. -/
def tableRefusesSpec : ChangeSpec := { name := "tableRefuses", fn := fun _ => fun
  | [d1, d2] => { results := [.lit (.bool true)], args := [d1, d2] }
  | _ => none }
def tableRefusesRow : OpenClaim := { program := "yteglbjcdlekbpaagreat", sum := "87452e8bd811aaf0ed8eddeabb07ec39c1514a297183e27b38f2fc729c171b81", func := "tympan/tympanlaw20.TableRefuses", spec := "tableRefuses", unfollowed := true, recurses := true, plainKeys := false, apart := false }
def TableRefusesSaid : Prop := tableRefusesRow.holds Tryz.pinned (OpenSpec.ofChange tableRefusesSpec)

/-- ITS FALSE NEIGHBOUR: 'it returns false'. Refute it at one input. -/
def tableRefusesWrong : ChangeSpec := { name := "tableRefuses", fn := fun _ => fun
  | [d1, d2] => { results := [.lit (.bool false)], args := [d1, d2] }
  | _ => none }
def TableRefusesWrongFalsely : Prop := tableRefusesRow.holds Tryz.pinned (OpenSpec.ofChange tableRefusesWrong)

/-- 'tympanlaw19.SeqParts': WHATEVER THE INPUT: true; the input reads as it did. -/
def seqPartsSpec : ChangeSpec := { name := "seqParts", fn := fun _ => fun
  | [d1, d2, d3, d4] => { results := [.lit (.bool true)], args := [d1, d2, d3, d4] }
  | _ => none }
def seqPartsRow : OpenClaim := { program := "yteglbjcdlekbpaagreat", sum := "87452e8bd811aaf0ed8eddeabb07ec39c1514a297183e27b38f2fc729c171b81", func := "tympan/tympanlaw19.SeqParts", spec := "seqParts", inPlace := ["internal/bytealg.IndexByteString", "internal/bytealg.IndexString"], unfollowed := true, recurses := true, named := ["internal/bytealg.MaxLen"], plainKeys := false, apart := false }
def SeqPartsSaid : Prop := seqPartsRow.holds Tryz.pinned (OpenSpec.ofChange seqPartsSpec)

/-- ITS FALSE NEIGHBOUR: 'it returns false'. Refute it at one input. -/
def seqPartsWrong : ChangeSpec := { name := "seqParts", fn := fun _ => fun
  | [d1, d2, d3, d4] => { results := [.lit (.bool false)], args := [d1, d2, d3, d4] }
  | _ => none }
def SeqPartsWrongFalsely : Prop := seqPartsRow.holds Tryz.pinned (OpenSpec.ofChange seqPartsWrong)

/-- 'tympanlaw19.SeqFound': WHATEVER THE INPUT: true; the input reads as it did. -/
def seqFoundSpec : ChangeSpec := { name := "seqFound", fn := fun _ => fun
  | [d1, d2, d3, d4] => { results := [.lit (.bool true)], args := [d1, d2, d3, d4] }
  | _ => none }
def seqFoundRow : OpenClaim := { program := "yteglbjcdlekbpaagreat", sum := "87452e8bd811aaf0ed8eddeabb07ec39c1514a297183e27b38f2fc729c171b81", func := "tympan/tympanlaw19.SeqFound", spec := "seqFound", inPlace := ["internal/bytealg.IndexByteString", "internal/bytealg.IndexString"], unfollowed := true, recurses := true, named := ["internal/bytealg.MaxLen"], plainKeys := false, apart := false }
def SeqFoundSaid : Prop := seqFoundRow.holds Tryz.pinned (OpenSpec.ofChange seqFoundSpec)

/-- ITS FALSE NEIGHBOUR: 'it returns false'. Refute it at one input. -/
def seqFoundWrong : ChangeSpec := { name := "seqFound", fn := fun _ => fun
  | [d1, d2, d3, d4] => { results := [.lit (.bool false)], args := [d1, d2, d3, d4] }
  | _ => none }
def SeqFoundWrongFalsely : Prop := seqFoundRow.holds Tryz.pinned (OpenSpec.ofChange seqFoundWrong)

/-- 'tympanlaw19.SeqRows': WHATEVER THE INPUT: true; the input reads as it did. -/
def seqRowsSpec : ChangeSpec := { name := "seqRows", fn := fun _ => fun
  | [d] => { results := [.lit (.bool true)], args := [d] }
  | _ => none }
def seqRowsRow : OpenClaim := { program := "yteglbjcdlekbpaagreat", sum := "87452e8bd811aaf0ed8eddeabb07ec39c1514a297183e27b38f2fc729c171b81", func := "tympan/tympanlaw19.SeqRows", spec := "seqRows", inPlace := ["internal/bytealg.IndexByteString", "internal/bytealg.IndexString"], unfollowed := true, recurses := true, named := ["internal/bytealg.MaxLen"], plainKeys := false, apart := false }
def SeqRowsSaid : Prop := seqRowsRow.holds Tryz.pinned (OpenSpec.ofChange seqRowsSpec)

/-- ITS FALSE NEIGHBOUR: 'it returns false'. Refute it at one input. -/
def seqRowsWrong : ChangeSpec := { name := "seqRows", fn := fun _ => fun
  | [d] => { results := [.lit (.bool false)], args := [d] }
  | _ => none }
def SeqRowsWrongFalsely : Prop := seqRowsRow.holds Tryz.pinned (OpenSpec.ofChange seqRowsWrong)

/-- 'tympanlaw19.SeqOrder': WHATEVER THE INPUT: true; the input reads as it did. -/
def seqOrderSpec : ChangeSpec := { name := "seqOrder", fn := fun _ => fun
  | [d1, d2, d3, d4, d5] => { results := [.lit (.bool true)], args := [d1, d2, d3, d4, d5] }
  | _ => none }
def seqOrderRow : OpenClaim := { program := "yteglbjcdlekbpaagreat", sum := "87452e8bd811aaf0ed8eddeabb07ec39c1514a297183e27b38f2fc729c171b81", func := "tympan/tympanlaw19.SeqOrder", spec := "seqOrder", inPlace := ["internal/bytealg.IndexByteString", "internal/bytealg.IndexString"], unfollowed := true, recurses := true, named := ["internal/bytealg.MaxLen"], plainKeys := false, apart := false }
def SeqOrderSaid : Prop := seqOrderRow.holds Tryz.pinned (OpenSpec.ofChange seqOrderSpec)

/-- ITS FALSE NEIGHBOUR: 'it returns false'. Refute it at one input. -/
def seqOrderWrong : ChangeSpec := { name := "seqOrder", fn := fun _ => fun
  | [d1, d2, d3, d4, d5] => { results := [.lit (.bool false)], args := [d1, d2, d3, d4, d5] }
  | _ => none }
def SeqOrderWrongFalsely : Prop := seqOrderRow.holds Tryz.pinned (OpenSpec.ofChange seqOrderWrong)

/-- 'tympanlaw19.SeqCat': WHATEVER THE INPUT: true; the input reads as it did. -/
def seqCatSpec : ChangeSpec := { name := "seqCat", fn := fun _ => fun
  | [d1, d2, d3] => { results := [.lit (.bool true)], args := [d1, d2, d3] }
  | _ => none }
def seqCatRow : OpenClaim := { program := "yteglbjcdlekbpaagreat", sum := "87452e8bd811aaf0ed8eddeabb07ec39c1514a297183e27b38f2fc729c171b81", func := "tympan/tympanlaw19.SeqCat", spec := "seqCat", inPlace := ["internal/bytealg.IndexByteString", "internal/bytealg.IndexString"], unfollowed := true, recurses := true, named := ["internal/bytealg.MaxLen"], plainKeys := false, apart := false }
def SeqCatSaid : Prop := seqCatRow.holds Tryz.pinned (OpenSpec.ofChange seqCatSpec)

/-- ITS FALSE NEIGHBOUR: 'it returns false'. Refute it at one input. -/
def seqCatWrong : ChangeSpec := { name := "seqCat", fn := fun _ => fun
  | [d1, d2, d3] => { results := [.lit (.bool false)], args := [d1, d2, d3] }
  | _ => none }
def SeqCatWrongFalsely : Prop := seqCatRow.holds Tryz.pinned (OpenSpec.ofChange seqCatWrong)

/- THE SECOND FORM. 'bulk': how many values and letters a reading holds, each counted each time it is reached (what is shared counts as often as it is met; a slice's spare places count too). A statement '..UptoSaid' is the law's where the arguments, and the package variables that the reading takes, are together of bulk at most 1048576: NARROWER than '..Said'. Prove '..Said' where nothing that the law and all that it calls make is longer than what came in: it says more and counts as full. Else prove '..UptoSaid'. A law counts once. -/
mutual
def uptoBulk {H : Type} : DataW H → Nat
  | .lit (.string bytes) => bytes.length + 1
  | .lit _ => 1
  | .nil => 1
  | .ptr d => uptoBulk d + 1
  | .slice elems spare => uptoBulkAll elems + uptoBulkAll spare + 1
  | .agg parts => uptoBulkAll parts + 1
  | .iface _ d => uptoBulk d + 1
  | .map entries => uptoBulkEntries entries + 1
  | .held _ => 1
def uptoBulkAll {H : Type} : List (DataW H) → Nat
  | [] => 0
  | d :: r => uptoBulk d + uptoBulkAll r
def uptoBulkEntries {H : Type} : List (Lit × DataW H) → Nat
  | [] => 0
  | x :: r => uptoBulkEntry x + uptoBulkEntries r
def uptoBulkEntry {H : Type} : Lit × DataW H → Nat
  | (.string bytes, d) => bytes.length + uptoBulk d + 1
  | (_, d) => uptoBulk d + 1
 end
def uptoSmall : (H : Type) → List (DataW H) → Bool := fun _ ds => decide (uptoBulkAll ds ≤ 1048576)
def OpenSpec.upto (s : _root_.Go.ChangeSpec) : _root_.Go.OpenSpec := { _root_.Go.OpenSpec.ofChange s with cond := some uptoSmall }

/-- 'tympanlaw20.TableDefines', WHERE WHAT IT READS IS OF BULK AT MOST 1048576: true; the input reads as it did. -/
def tableDefinesUptoRow : OpenClaim := { program := "yteglbjcdlekbpaagreat", sum := "87452e8bd811aaf0ed8eddeabb07ec39c1514a297183e27b38f2fc729c171b81", func := "tympan/tympanlaw20.TableDefines", spec := "tableDefines", unfollowed := true, recurses := true, plainKeys := false, apart := false, narrowed := true }
def TableDefinesUptoSaid : Prop := tableDefinesUptoRow.holds Tryz.pinned (OpenSpec.upto tableDefinesSpec)

/-- 'tympanlaw20.TableWhole', WHERE WHAT IT READS IS OF BULK AT MOST 1048576: true; the input reads as it did. -/
def tableWholeUptoRow : OpenClaim := { program := "yteglbjcdlekbpaagreat", sum := "87452e8bd811aaf0ed8eddeabb07ec39c1514a297183e27b38f2fc729c171b81", func := "tympan/tympanlaw20.TableWhole", spec := "tableWhole", unfollowed := true, recurses := true, plainKeys := false, apart := false, narrowed := true }
def TableWholeUptoSaid : Prop := tableWholeUptoRow.holds Tryz.pinned (OpenSpec.upto tableWholeSpec)

/-- 'tympanlaw20.TableRefuses', WHERE WHAT IT READS IS OF BULK AT MOST 1048576: true; the input reads as it did. -/
def tableRefusesUptoRow : OpenClaim := { program := "yteglbjcdlekbpaagreat", sum := "87452e8bd811aaf0ed8eddeabb07ec39c1514a297183e27b38f2fc729c171b81", func := "tympan/tympanlaw20.TableRefuses", spec := "tableRefuses", unfollowed := true, recurses := true, plainKeys := false, apart := false, narrowed := true }
def TableRefusesUptoSaid : Prop := tableRefusesUptoRow.holds Tryz.pinned (OpenSpec.upto tableRefusesSpec)

/-- 'tympanlaw19.SeqParts', WHERE WHAT IT READS IS OF BULK AT MOST 1048576: true; the input reads as it did. -/
def seqPartsUptoRow : OpenClaim := { program := "yteglbjcdlekbpaagreat", sum := "87452e8bd811aaf0ed8eddeabb07ec39c1514a297183e27b38f2fc729c171b81", func := "tympan/tympanlaw19.SeqParts", spec := "seqParts", inPlace := ["internal/bytealg.IndexByteString", "internal/bytealg.IndexString"], unfollowed := true, recurses := true, named := ["internal/bytealg.MaxLen"], plainKeys := false, apart := false, narrowed := true }
def SeqPartsUptoSaid : Prop := seqPartsUptoRow.holds Tryz.pinned (OpenSpec.upto seqPartsSpec)

/-- 'tympanlaw19.SeqFound', WHERE WHAT IT READS IS OF BULK AT MOST 1048576: true; the input reads as it did. -/
def seqFoundUptoRow : OpenClaim := { program := "yteglbjcdlekbpaagreat", sum := "87452e8bd811aaf0ed8eddeabb07ec39c1514a297183e27b38f2fc729c171b81", func := "tympan/tympanlaw19.SeqFound", spec := "seqFound", inPlace := ["internal/bytealg.IndexByteString", "internal/bytealg.IndexString"], unfollowed := true, recurses := true, named := ["internal/bytealg.MaxLen"], plainKeys := false, apart := false, narrowed := true }
def SeqFoundUptoSaid : Prop := seqFoundUptoRow.holds Tryz.pinned (OpenSpec.upto seqFoundSpec)

/-- 'tympanlaw19.SeqRows', WHERE WHAT IT READS IS OF BULK AT MOST 1048576: true; the input reads as it did. -/
def seqRowsUptoRow : OpenClaim := { program := "yteglbjcdlekbpaagreat", sum := "87452e8bd811aaf0ed8eddeabb07ec39c1514a297183e27b38f2fc729c171b81", func := "tympan/tympanlaw19.SeqRows", spec := "seqRows", inPlace := ["internal/bytealg.IndexByteString", "internal/bytealg.IndexString"], unfollowed := true, recurses := true, named := ["internal/bytealg.MaxLen"], plainKeys := false, apart := false, narrowed := true }
def SeqRowsUptoSaid : Prop := seqRowsUptoRow.holds Tryz.pinned (OpenSpec.upto seqRowsSpec)

/-- 'tympanlaw19.SeqOrder', WHERE WHAT IT READS IS OF BULK AT MOST 1048576: true; the input reads as it did. -/
def seqOrderUptoRow : OpenClaim := { program := "yteglbjcdlekbpaagreat", sum := "87452e8bd811aaf0ed8eddeabb07ec39c1514a297183e27b38f2fc729c171b81", func := "tympan/tympanlaw19.SeqOrder", spec := "seqOrder", inPlace := ["internal/bytealg.IndexByteString", "internal/bytealg.IndexString"], unfollowed := true, recurses := true, named := ["internal/bytealg.MaxLen"], plainKeys := false, apart := false, narrowed := true }
def SeqOrderUptoSaid : Prop := seqOrderUptoRow.holds Tryz.pinned (OpenSpec.upto seqOrderSpec)

/-- 'tympanlaw19.SeqCat', WHERE WHAT IT READS IS OF BULK AT MOST 1048576: true; the input reads as it did. -/
def seqCatUptoRow : OpenClaim := { program := "yteglbjcdlekbpaagreat", sum := "87452e8bd811aaf0ed8eddeabb07ec39c1514a297183e27b38f2fc729c171b81", func := "tympan/tympanlaw19.SeqCat", spec := "seqCat", inPlace := ["internal/bytealg.IndexByteString", "internal/bytealg.IndexString"], unfollowed := true, recurses := true, named := ["internal/bytealg.MaxLen"], plainKeys := false, apart := false, narrowed := true }
def SeqCatUptoSaid : Prop := seqCatUptoRow.holds Tryz.pinned (OpenSpec.upto seqCatSpec)

end Rows
end Go.Proofs.YteglbjcdlekbpaaGreat
