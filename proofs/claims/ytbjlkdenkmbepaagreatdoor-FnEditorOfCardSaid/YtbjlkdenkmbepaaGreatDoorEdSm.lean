/- What is proved here: the contract of sameEditor on equal editors. No condition. -/
import Derived.Test.YtbjlkdenkmbepaaGreatDoorEd0
import Derived.Test.YtbjlkdenkmbepaaGreatDoorHistO
namespace Go.Proofs.YtbjlkdenkmbepaaGreatDoor
open Go.RowKit
set_option linter.unusedVariables false

set_option maxRecDepth 100000 in
set_option maxHeartbeats 1000000 in
theorem sameEditor_same (u v : Value) (ms : List Mo) (pa : Int) (s : List UInt8) (x : Int) (cl : List UInt8) (w : World) (hu : RdM w u ms) (hv : RdM w v ms) :
    Calls Tryz.prog 15 #[edAgg s x cl u pa, edAgg s x cl v pa] w fun e w' => e = .returned (.bool true) ∧ Below w.heap.size w w' := by
  obtain ⟨A, c, rfl, _, _⟩ := hu.1.form
  obtain ⟨B, d, rfl, _, _⟩ := hv.1.form
  have X := Lib.hid (fun (w' : World) (hb : Below w.heap.size w w') => sameHistory_same (.slice A ms.length c) (.slice B ms.length d) ms pa w' (hu.up hb) (hv.up hb))
  clear hu hv
  unfold edAgg
  go_enter Tryz.func15, Tryz.ntmps15
  go_wp2_with fail
  refine (X.out _ (by (repeat (first | exact Below.refl _ _ | assumption | refine Below.drew ?_ | refine up_drewN ?_ _ | refine up_alloc ?_ _ | refine up_set ?_ _ _ (by first | exact Nat.le_refl _ | (simp; done) | (simp; omega) | omega) | refine up_trans ?_ (by assumption))))).mono ?_
  rintro e w1 ⟨rfl, hb⟩
  have hW : Below w.heap.size w w1 := by (repeat (first | exact Below.refl _ _ | assumption | refine Below.drew ?_ | refine up_drewN ?_ _ | refine up_alloc ?_ _ | refine up_set ?_ _ _ (by first | exact Nat.le_refl _ | (simp; done) | (simp; omega) | omega) | refine up_trans ?_ (by assumption)))
  clear hb
  go_wp2_with fail
  go_ret
  exact ⟨rfl, hW⟩

end Go.Proofs.YtbjlkdenkmbepaaGreatDoor
