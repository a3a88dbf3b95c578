/- What is proved here: the function that the program's ChangeBuffer hands on. No condition. -/
import Derived.Test.YtndmidcilbghkaaChg2
namespace Go.Proofs.Ytndmidcilbghkaa
open Go.RowKit

end Go.Proofs.Ytndmidcilbghkaa
