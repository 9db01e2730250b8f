/- tympanlaw11.known. -/
import Derived.Test.YtgllgemjfpiogaaLat
namespace Go.Proofs.Ytgllgemjfpiogaa
open Go.RowKit
end Go.Proofs.Ytgllgemjfpiogaa
