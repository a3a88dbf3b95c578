/- What is proved here: the contract of the reference's CloseBuffer. No condition. -/
import Derived.Test.YtndmidcilbghkaaClo2a
import Derived.BigQuiet
namespace Go.Proofs.Ytndmidcilbghkaa
open Go.RowKit

end Go.Proofs.Ytndmidcilbghkaa
