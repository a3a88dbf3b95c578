/- What is proved here: the contract of the reference's CloseBuffer. No condition. -/
import Derived.Test.YtlejfmngpbcdhaaClo2a
import Derived.BigQuiet
namespace Go.Proofs.Ytlejfmngpbcdhaa
open Go.RowKit

end Go.Proofs.Ytlejfmngpbcdhaa
