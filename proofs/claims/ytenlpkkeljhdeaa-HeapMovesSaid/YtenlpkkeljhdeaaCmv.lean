/- HeapMoves returns true at every input. -/
import Derived.Test.YtenlpkkeljhdeaaLsh
import Derived.Test.YtenlpkkeljhdeaaLmv
namespace Go.Proofs.Ytenlpkkeljhdeaa.heapMoves
open Go.ChangeShapes Go.WideShapes Go.ChangeAt Go.RowKit
set_option linter.unusedVariables false

theorem walk (a0 : ByteArray) (a1 : Int) (a2 : Int) (a3 : Int) (w0 : a0.size ≤ maxLen) (w1 : (Lit.int .u8 a1).wf = true) (w2 : (Lit.int .u8 a2).wf = true) (w3 : (Lit.int .u8 a3).wf = true) (w : World) :
    Calls Try.prog 6 #[.string a0, .int .u8 a1, .int .u8 a2, .int .u8 a3] w fun e w' => e = .returned (.bool true) ∧ Chg NoB w w' :=
  heapMoves_any a0 a1 a2 a3 w0 (wf_u8 w1).1 (wf_u8 w1).2 (wf_u8 w2).1 (wf_u8 w2).2 (wf_u8 w3).1 (wf_u8 w3).2 w

end Go.Proofs.Ytenlpkkeljhdeaa.heapMoves
