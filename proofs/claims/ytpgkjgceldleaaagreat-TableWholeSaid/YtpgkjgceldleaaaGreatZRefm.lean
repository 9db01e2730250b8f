/- Rxw, Rxy -/
import Derived.Test.YtpgkjgceldleaaaGreatZRefl
/- The reference's heap: Put, where it stores. -/
namespace Go.Proofs.YtpgkjgceldleaaaGreat
open Go.RowKit
end Go.Proofs.YtpgkjgceldleaaaGreat
/- The reference's heap: Put, whole. -/
namespace Go.Proofs.YtpgkjgceldleaaaGreat
open Go.RowKit
end Go.Proofs.YtpgkjgceldleaaaGreat
