/- Parts of the proof: Uvb. -/
import Derived.Test.YtoogmimbmgdflaaGreatY22
import Derived.Test.YtoogmimbmgdflaaGreatY27
namespace Go.Proofs.YtoogmimbmgdflaaGreat
open Go.RowKit
def wordO (H : List C) (o : O) : Tok := if o.kind = 3 then ⟨1, o.n, ⟨#[]⟩, 0⟩ else if o.kind = 4 then ⟨2, o.n, ⟨#[]⟩, 0⟩ else if o.kind = 5 then ⟨if o.exec then 3 else 4, 0, o.s, 0⟩ else ⟨6, 0, (bytesH H o).1, 0⟩
end Go.Proofs.YtoogmimbmgdflaaGreat
