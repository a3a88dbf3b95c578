/- What is proved here: contracts of the reference's PressKey: lines and other keys. No condition. -/
import Derived.Test.YtcjgllbhmghkeaaDoorKey3
namespace Go.Proofs.YtcjgllbhmghkeaaDoor
open Go.RowKit

theorem lineMany_tv (s : List UInt8) (w : World) (hs : tv s = true) :
    Calls Tryd.prog 56 #[S s] w fun e w' => e = .returned (.int .i64 (1 + (nl s : Int))) ∧ w = w' := by
  have hl := tv_len hs
  have h := specLineMany_any s w (by unfold maxLen; omega)
  rw [hs, if_pos rfl] at h
  exact h











end Go.Proofs.YtcjgllbhmghkeaaDoor
