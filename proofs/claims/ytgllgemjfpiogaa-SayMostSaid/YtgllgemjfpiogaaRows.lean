/-
  No cell of these rows narrows 'for every input' (looked for: loops, veiled, ifaces, maps, wideKeys, modest, calm, conditions, laid).
  DERIVED. THE GIVEN ROWS OF THIS SEAT. 6 by the template 'for every input the law returns true; each argument reads behind the call as it read before'; 0 by the template 'total and deterministic' (their statements: YtgllgemjfpiogaaTotals.lean).
  GIVEN WITH THE SEED: the statements are not yours to turn. If you find one false, say at which input.
  Laid BY PROGRAM, IN A SANDBOX (cutbox-rows.mjs): the forced cells as the released guide's own fill.sh prints them over the translation db49c717ca8cf47f… (all of the seat's roots in one cut). By AI agents, Wed Nov 11 2026. No macro, syntax, notation, axiom, sorry.
-/
import Derived.Test.YtgllgemjfpiogaaChecked
import GoSem.Claim
import GoSem.ClaimJoined
import GoSem.ClaimMapViews
import Derived.JoinedTies
import Derived.KernelRfl
namespace Go.Proofs.Ytgllgemjfpiogaa
/- THE CELL 'sum', in the pinned program and in every row, IS THE sha256 OF THE DUMP (.gsa) THAT YtgllgemjfpiogaaProg.lean LOADS. Nothing in Lean hashes anything: it is a label: what it is worth is what the hold of that sum in a sandbox is worth. -/
noncomputable def Try.pinned : Pinned := { name := "ytgllgemjfpiogaa", sum := "db49c717ca8cf47f36d08f8eb16d779e15237a18597edefe3e105df91c2aac9f", checked := Try.checked }
namespace Rows
def none {H : Type} : Left H := { results := [], args := [] }

/-- 'tympanlaw12.DictLast': WHATEVER THE INPUT: true; the input reads as it did. -/
def dictLastSpec : ChangeSpec := { name := "dictLast", fn := fun _ => fun
  | [d1, d2, d3] => { results := [.lit (.bool true)], args := [d1, d2, d3] }
  | _ => none }
def dictLastRow : OpenClaim := { program := "ytgllgemjfpiogaa", sum := "db49c717ca8cf47f36d08f8eb16d779e15237a18597edefe3e105df91c2aac9f", func := "tympan/tympanlaw12.DictLast", spec := "dictLast", plainKeys := false, apart := false }
def DictLastSaid : Prop := dictLastRow.holds Try.pinned (OpenSpec.ofChange dictLastSpec)

/-- ITS FALSE NEIGHBOUR: 'it returns false'. Refute it at one input. -/
def dictLastWrong : ChangeSpec := { name := "dictLast", fn := fun _ => fun
  | [d1, d2, d3] => { results := [.lit (.bool false)], args := [d1, d2, d3] }
  | _ => none }
def DictLastWrongFalsely : Prop := dictLastRow.holds Try.pinned (OpenSpec.ofChange dictLastWrong)

/-- 'tympanlaw12.DictKeys': WHATEVER THE INPUT: true; the input reads as it did. -/
def dictKeysSpec : ChangeSpec := { name := "dictKeys", fn := fun _ => fun
  | [d1, d2] => { results := [.lit (.bool true)], args := [d1, d2] }
  | _ => none }
def dictKeysRow : OpenClaim := { program := "ytgllgemjfpiogaa", sum := "db49c717ca8cf47f36d08f8eb16d779e15237a18597edefe3e105df91c2aac9f", func := "tympan/tympanlaw12.DictKeys", spec := "dictKeys", plainKeys := false, apart := false }
def DictKeysSaid : Prop := dictKeysRow.holds Try.pinned (OpenSpec.ofChange dictKeysSpec)

/-- ITS FALSE NEIGHBOUR: 'it returns false'. Refute it at one input. -/
def dictKeysWrong : ChangeSpec := { name := "dictKeys", fn := fun _ => fun
  | [d1, d2] => { results := [.lit (.bool false)], args := [d1, d2] }
  | _ => none }
def DictKeysWrongFalsely : Prop := dictKeysRow.holds Try.pinned (OpenSpec.ofChange dictKeysWrong)

/-- 'tympanlaw17.SayNested': WHATEVER THE INPUT: true; the input reads as it did. -/
def sayNestedSpec : ChangeSpec := { name := "sayNested", fn := fun _ => fun
  | [d1, d2] => { results := [.lit (.bool true)], args := [d1, d2] }
  | _ => none }
def sayNestedRow : OpenClaim := { program := "ytgllgemjfpiogaa", sum := "db49c717ca8cf47f36d08f8eb16d779e15237a18597edefe3e105df91c2aac9f", func := "tympan/tympanlaw17.SayNested", spec := "sayNested", unfollowed := true, recurses := true, plainKeys := false, apart := false }
def SayNestedSaid : Prop := sayNestedRow.holds Try.pinned (OpenSpec.ofChange sayNestedSpec)

/-- ITS FALSE NEIGHBOUR: 'it returns false'. Refute it at one input. -/
def sayNestedWrong : ChangeSpec := { name := "sayNested", fn := fun _ => fun
  | [d1, d2] => { results := [.lit (.bool false)], args := [d1, d2] }
  | _ => none }
def SayNestedWrongFalsely : Prop := sayNestedRow.holds Try.pinned (OpenSpec.ofChange sayNestedWrong)

/-- 'tympanlaw17.SayMost': WHATEVER THE INPUT: true; the input reads as it did. -/
def sayMostSpec : ChangeSpec := { name := "sayMost", fn := fun _ => fun
  | [d1, d2] => { results := [.lit (.bool true)], args := [d1, d2] }
  | _ => none }
def sayMostRow : OpenClaim := { program := "ytgllgemjfpiogaa", sum := "db49c717ca8cf47f36d08f8eb16d779e15237a18597edefe3e105df91c2aac9f", func := "tympan/tympanlaw17.SayMost", spec := "sayMost", unfollowed := true, recurses := true, plainKeys := false, apart := false }
def SayMostSaid : Prop := sayMostRow.holds Try.pinned (OpenSpec.ofChange sayMostSpec)

/-- ITS FALSE NEIGHBOUR: 'it returns false'. Refute it at one input. -/
def sayMostWrong : ChangeSpec := { name := "sayMost", fn := fun _ => fun
  | [d1, d2] => { results := [.lit (.bool false)], args := [d1, d2] }
  | _ => none }
def SayMostWrongFalsely : Prop := sayMostRow.holds Try.pinned (OpenSpec.ofChange sayMostWrong)

/-- 'tympanlaw12.DictOrder': WHATEVER THE INPUT: true; the input reads as it did. -/
def dictOrderSpec : ChangeSpec := { name := "dictOrder", fn := fun _ => fun
  | [d1, d2, d3] => { results := [.lit (.bool true)], args := [d1, d2, d3] }
  | _ => none }
def dictOrderRow : OpenClaim := { program := "ytgllgemjfpiogaa", sum := "db49c717ca8cf47f36d08f8eb16d779e15237a18597edefe3e105df91c2aac9f", func := "tympan/tympanlaw12.DictOrder", spec := "dictOrder", plainKeys := false, apart := false }
def DictOrderSaid : Prop := dictOrderRow.holds Try.pinned (OpenSpec.ofChange dictOrderSpec)

/-- ITS FALSE NEIGHBOUR: 'it returns false'. Refute it at one input. -/
def dictOrderWrong : ChangeSpec := { name := "dictOrder", fn := fun _ => fun
  | [d1, d2, d3] => { results := [.lit (.bool false)], args := [d1, d2, d3] }
  | _ => none }
def DictOrderWrongFalsely : Prop := dictOrderRow.holds Try.pinned (OpenSpec.ofChange dictOrderWrong)

/-- 'tympanlaw12.DictPlays': WHATEVER THE INPUT: true; the input reads as it did. -/
def dictPlaysSpec : ChangeSpec := { name := "dictPlays", fn := fun _ => fun
  | [d1, d2] => { results := [.lit (.bool true)], args := [d1, d2] }
  | _ => none }
def dictPlaysRow : OpenClaim := { program := "ytgllgemjfpiogaa", sum := "db49c717ca8cf47f36d08f8eb16d779e15237a18597edefe3e105df91c2aac9f", func := "tympan/tympanlaw12.DictPlays", spec := "dictPlays", plainKeys := false, apart := false }
def DictPlaysSaid : Prop := dictPlaysRow.holds Try.pinned (OpenSpec.ofChange dictPlaysSpec)

/-- ITS FALSE NEIGHBOUR: 'it returns false'. Refute it at one input. -/
def dictPlaysWrong : ChangeSpec := { name := "dictPlays", fn := fun _ => fun
  | [d1, d2] => { results := [.lit (.bool false)], args := [d1, d2] }
  | _ => none }
def DictPlaysWrongFalsely : Prop := dictPlaysRow.holds Try.pinned (OpenSpec.ofChange dictPlaysWrong)

/- THE SECOND FORM. 'bulk': how many values and letters a reading holds, each counted each time it is reached (what is shared counts as often as it is met; a slice's spare places count too). A statement '..UptoSaid' is the law's where the arguments, and the package variables that the reading takes, are together of bulk at most 1048576: NARROWER than '..Said'. Prove '..Said' where nothing that the law and all that it calls make is longer than what came in: it says more and counts as full. Else prove '..UptoSaid'. A law counts once. -/
mutual
def uptoBulk {H : Type} : DataW H → Nat
  | .lit (.string bytes) => bytes.length + 1
  | .lit _ => 1
  | .nil => 1
  | .ptr d => uptoBulk d + 1
  | .slice elems spare => uptoBulkAll elems + uptoBulkAll spare + 1
  | .agg parts => uptoBulkAll parts + 1
  | .iface _ d => uptoBulk d + 1
  | .map entries => uptoBulkEntries entries + 1
  | .held _ => 1
def uptoBulkAll {H : Type} : List (DataW H) → Nat
  | [] => 0
  | d :: r => uptoBulk d + uptoBulkAll r
def uptoBulkEntries {H : Type} : List (Lit × DataW H) → Nat
  | [] => 0
  | x :: r => uptoBulkEntry x + uptoBulkEntries r
def uptoBulkEntry {H : Type} : Lit × DataW H → Nat
  | (.string bytes, d) => bytes.length + uptoBulk d + 1
  | (_, d) => uptoBulk d + 1
 end
def uptoSmall : (H : Type) → List (DataW H) → Bool := fun _ ds => decide (uptoBulkAll ds ≤ 1048576)
def OpenSpec.upto (s : _root_.Go.ChangeSpec) : _root_.Go.OpenSpec := { _root_.Go.OpenSpec.ofChange s with cond := some uptoSmall }

/-- 'tympanlaw12.DictLast', WHERE WHAT IT READS IS OF BULK AT MOST 1048576: true; the input reads as it did. -/
def dictLastUptoRow : OpenClaim := { program := "ytgllgemjfpiogaa", sum := "db49c717ca8cf47f36d08f8eb16d779e15237a18597edefe3e105df91c2aac9f", func := "tympan/tympanlaw12.DictLast", spec := "dictLast", plainKeys := false, apart := false, narrowed := true }
def DictLastUptoSaid : Prop := dictLastUptoRow.holds Try.pinned (OpenSpec.upto dictLastSpec)

/-- 'tympanlaw12.DictKeys', WHERE WHAT IT READS IS OF BULK AT MOST 1048576: true; the input reads as it did. -/
def dictKeysUptoRow : OpenClaim := { program := "ytgllgemjfpiogaa", sum := "db49c717ca8cf47f36d08f8eb16d779e15237a18597edefe3e105df91c2aac9f", func := "tympan/tympanlaw12.DictKeys", spec := "dictKeys", plainKeys := false, apart := false, narrowed := true }
def DictKeysUptoSaid : Prop := dictKeysUptoRow.holds Try.pinned (OpenSpec.upto dictKeysSpec)

/-- 'tympanlaw17.SayNested', WHERE WHAT IT READS IS OF BULK AT MOST 1048576: true; the input reads as it did. -/
def sayNestedUptoRow : OpenClaim := { program := "ytgllgemjfpiogaa", sum := "db49c717ca8cf47f36d08f8eb16d779e15237a18597edefe3e105df91c2aac9f", func := "tympan/tympanlaw17.SayNested", spec := "sayNested", unfollowed := true, recurses := true, plainKeys := false, apart := false, narrowed := true }
def SayNestedUptoSaid : Prop := sayNestedUptoRow.holds Try.pinned (OpenSpec.upto sayNestedSpec)

/-- 'tympanlaw17.SayMost', WHERE WHAT IT READS IS OF BULK AT MOST 1048576: true; the input reads as it did. -/
def sayMostUptoRow : OpenClaim := { program := "ytgllgemjfpiogaa", sum := "db49c717ca8cf47f36d08f8eb16d779e15237a18597edefe3e105df91c2aac9f", func := "tympan/tympanlaw17.SayMost", spec := "sayMost", unfollowed := true, recurses := true, plainKeys := false, apart := false, narrowed := true }
def SayMostUptoSaid : Prop := sayMostUptoRow.holds Try.pinned (OpenSpec.upto sayMostSpec)

/-- 'tympanlaw12.DictOrder', WHERE WHAT IT READS IS OF BULK AT MOST 1048576: true; the input reads as it did. -/
def dictOrderUptoRow : OpenClaim := { program := "ytgllgemjfpiogaa", sum := "db49c717ca8cf47f36d08f8eb16d779e15237a18597edefe3e105df91c2aac9f", func := "tympan/tympanlaw12.DictOrder", spec := "dictOrder", plainKeys := false, apart := false, narrowed := true }
def DictOrderUptoSaid : Prop := dictOrderUptoRow.holds Try.pinned (OpenSpec.upto dictOrderSpec)

/-- 'tympanlaw12.DictPlays', WHERE WHAT IT READS IS OF BULK AT MOST 1048576: true; the input reads as it did. -/
def dictPlaysUptoRow : OpenClaim := { program := "ytgllgemjfpiogaa", sum := "db49c717ca8cf47f36d08f8eb16d779e15237a18597edefe3e105df91c2aac9f", func := "tympan/tympanlaw12.DictPlays", spec := "dictPlays", plainKeys := false, apart := false, narrowed := true }
def DictPlaysUptoSaid : Prop := dictPlaysUptoRow.holds Try.pinned (OpenSpec.upto dictPlaysSpec)

end Rows
end Go.Proofs.Ytgllgemjfpiogaa
