/- What is proved here: contracts of szEditor, toEditor and eqEditor. No condition. -/
import Derived.Test.YtlejfmngpbcdhaaEd0
import Derived.Test.YtlejfmngpbcdhaaHistY
namespace Go.Proofs.Ytlejfmngpbcdhaa
open Go.RowKit
set_option linter.unusedVariables false

/-- a call that returns an editor whose history is the call's own. -/
def ToEPost (s : List UInt8) (at_ : Int) (cl : List UInt8) (ms : List Mo) (pa : Int) (w : World) (e : Ending) (w' : World) : Prop := ∃ v, e = .returned (edAgg s at_ cl v pa) ∧ OwnM w' w.heap.size v ms ∧ Below w.heap.size w w'
set_option maxRecDepth 100000 in
set_option maxHeartbeats 1000000 in
theorem eqEditor_same (u v : Value) (ms : List Mo) (pa : Int) (s : List UInt8) (at_ : Int) (cl : List UInt8) (w : World) (hu : RdL w 7 moC u ms) (hv : RdL w 7 moC v ms) :
    Calls Try.prog 11 #[edAgg s at_ cl u pa, edAgg s at_ cl v pa] w fun e w' => e = .returned (.bool true) ∧ Below w.heap.size w w' := by
  obtain ⟨A, c, rfl, hm, _⟩ := hu.form
  obtain ⟨B, d, rfl, _, _⟩ := hv.form
  have T := Lib.hid (fun (w' : World) (hb : Below w.heap.size w w') => eqHistory_same (.slice A ms.length c) (.slice B ms.length d) ms pa w' (hu.up hb) (hv.up hb))
  clear hu hv
  unfold edAgg
  go_enter Try.func11, Try.ntmps11
  go_wp2_with fail
  refine (T.out _ (by (repeat (first | exact Below.refl _ _ | assumption | refine Below.drew ?_ | refine up_drewN ?_ _ | refine up_alloc ?_ _ | refine up_set ?_ _ _ (by first | exact Nat.le_refl _ | (simp; done) | (simp; omega) | omega) | refine up_trans ?_ (by assumption))))).mono ?_
  rintro e w1 ⟨rfl, hb⟩
  have hW : Below w.heap.size w w1 := by (repeat (first | exact Below.refl _ _ | assumption | refine Below.drew ?_ | refine up_drewN ?_ _ | refine up_alloc ?_ _ | refine up_set ?_ _ _ (by first | exact Nat.le_refl _ | (simp; done) | (simp; omega) | omega) | refine up_trans ?_ (by assumption)))
  clear hb T
  go_wp2_with fail
  go_ret
  exact ⟨rfl, by (repeat (first | exact Below.refl _ _ | assumption | refine Below.drew ?_ | refine up_drewN ?_ _ | refine up_alloc ?_ _ | refine up_set ?_ _ _ (by first | exact Nat.le_refl _ | (simp; done) | (simp; omega) | omega) | refine up_trans ?_ (by assumption)))⟩

end Go.Proofs.Ytlejfmngpbcdhaa
