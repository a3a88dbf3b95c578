/- What is proved here: the function that the program's ChangeBuffer hands on. No condition. -/
import Derived.Test.YtlejfmngpbcdhaaChg2
namespace Go.Proofs.Ytlejfmngpbcdhaa
open Go.RowKit

end Go.Proofs.Ytlejfmngpbcdhaa
