/- What is proved here: the contract of the program's CloseBuffer. No condition. -/
import Derived.Test.YtlejfmngpbcdhaaClo1
import Derived.BigQuiet
namespace Go.Proofs.Ytlejfmngpbcdhaa
open Go.RowKit

end Go.Proofs.Ytlejfmngpbcdhaa
