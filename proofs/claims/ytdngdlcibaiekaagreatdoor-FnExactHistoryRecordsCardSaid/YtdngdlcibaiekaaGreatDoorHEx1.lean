/- What is proved here: small laws for the exact laws on histories. No condition. -/
import Derived.Test.YtdngdlcibaiekaaGreatDoorGK
import Derived.Test.YtdngdlcibaiekaaGreatDoorMarkM
import Derived.Test.YtdngdlcibaiekaaGreatDoorEver2
import Derived.Test.YtdngdlcibaiekaaGreatDoorHistY
namespace Go.Proofs.YtdngdlcibaiekaaGreatDoor
open Go.RowKit
set_option linter.unusedVariables false

/-- a history as a value whose states can be read. -/
def tHisR (ms : List Mo) (a : Int) : Ty (RS []) := ⟨fun v w => ∃ u, v = .agg #[u, .int .i64 a] ∧ RdL w 7 moC u ms, fun _ _ _ hR ⟨u, hv, h⟩ => ⟨u, hv, h.up hR.to_below⟩⟩
theorem rdM0_of {w : World} {base : Nat} {v : Value} {ms : List Mo} (h : OwnM w base v ms) (hs : SmallM ms) : RdM w v ms := ⟨RdL.of_own h, hs.2⟩

end Go.Proofs.YtdngdlcibaiekaaGreatDoor
