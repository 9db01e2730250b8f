/- Walks: Part, Bytes, Lock. -/
import Derived.Test.YtgllgemjfpiogaaHmk
namespace Go.Proofs.Ytgllgemjfpiogaa
open Go.RowKit
def partH (L : List C) (o : O) (i n : Int) : O × Int :=
  if findE L o ≠ 0 then (O.nil, findE L o)
  else if o.kind = 10 then (O.nil, 6)
  else if ¬ (0 ≤ i ∧ 0 ≤ n ∧ i ≤ o.len ∧ n ≤ o.len - i) then (O.nil, 12)
  else ({ o with pos := o.pos + i, len := n }, 0)

end Go.Proofs.Ytgllgemjfpiogaa
