/- What is proved here: eqChange at one change. No condition. -/
import Derived.Test.YtbjlkdenkmbepaaGreatDoorHist0
namespace Go.Proofs.YtbjlkdenkmbepaaGreatDoor
open Go.RowKit

set_option maxHeartbeats 1000000 in
theorem eqChange_same (x : Ch) (w : World) :
    Calls Tryz.prog 177 #[chAgg x, chAgg x] w fun e w' => e = .returned (.bool true) ∧ Below w.heap.size w w' := by
  unfold chAgg
  go_enter Tryz.func177, Tryz.ntmps177
  go_wp2_with fail
  go_ret
  exact ⟨rfl, by (repeat (first | exact Below.refl _ _ | assumption | refine Below.drew ?_ | refine up_drewN ?_ _ | refine up_alloc ?_ _ | refine up_set ?_ _ _ (by first | exact Nat.le_refl _ | (simp; done) | (simp; omega) | omega) | refine up_trans ?_ (by assumption)))⟩

end Go.Proofs.YtbjlkdenkmbepaaGreatDoor
