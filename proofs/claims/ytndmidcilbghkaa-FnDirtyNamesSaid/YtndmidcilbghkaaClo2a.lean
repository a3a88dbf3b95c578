/- What is proved here: the contract of the program's CloseBuffer. No condition. -/
import Derived.Test.YtndmidcilbghkaaClo1
import Derived.BigQuiet
namespace Go.Proofs.Ytndmidcilbghkaa
open Go.RowKit

end Go.Proofs.Ytndmidcilbghkaa
