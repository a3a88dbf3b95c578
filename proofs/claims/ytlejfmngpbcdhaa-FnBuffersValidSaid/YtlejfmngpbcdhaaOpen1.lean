/- What is proved here: the contracts of OpenBuffer in the program and in the reference. No condition. -/
import Derived.Test.YtlejfmngpbcdhaaApp
namespace Go.Proofs.Ytlejfmngpbcdhaa
open Go.RowKit

def obOk (bs : List Bf) (nm s : List UInt8) : Bool := bvB bs && tv s && decide (bfAt bs nm < 0) && nv nm && decide (bs.length ≠ 8)
def obOut (bs : List Bf) (nm s : List UInt8) : List Bf := if obOk bs nm s then bs ++ [⟨nm, s, s⟩] else if bvB bs && tv s then bs else []
def OpPost (bs : List Bf) (nm s : List UInt8) (w : World) (e : Ending) (w' : World) : Prop :=
  ∃ v, e = .returned (.tuple #[v, .bool (obOk bs nm s)]) ∧ Own w' w.heap.size 37 3 v (obOut bs nm s).length ((obOut bs nm s).flatMap bfC) ∧ Below w.heap.size w w'
theorem bvB_len {bs : List Bf} (h : bvB bs = true) : bs.length ≤ 8 := by simp [bvB] at h; exact h.2

theorem op_fail {bs : List Bf} {nm s : List UInt8} {v : Value} {w w' : World} (h0 : obOk bs nm s = false) (h1 : (bvB bs && tv s) = false) (h2 : Own w' w.heap.size 37 3 v 0 []) (h3 : Below w.heap.size w w') :
    OpPost bs nm s w (.returned (.tuple #[v, .bool false])) w' := by
  have : obOut bs nm s = [] := by unfold obOut; rw [h0, h1]; rfl
  exact ⟨v, by rw [h0], by rw [this]; exact h2, h3⟩
theorem op_same {bs : List Bf} {nm s : List UInt8} {v : Value} {w w' : World} (h0 : obOk bs nm s = false) (h1 : (bvB bs && tv s) = true) (h2 : Own w' w.heap.size 37 3 v bs.length (bs.flatMap bfC)) (h3 : Below w.heap.size w w') :
    OpPost bs nm s w (.returned (.tuple #[v, .bool false])) w' := by
  have : obOut bs nm s = bs := by unfold obOut; rw [h0, h1]; rfl
  exact ⟨v, by rw [h0], by rw [this]; exact h2, h3⟩
theorem op_done {bs : List Bf} {nm s : List UInt8} {v : Value} {w w' : World} (h0 : obOk bs nm s = true) (h2 : Own w' w.heap.size 37 3 v (bs.length + 1) (bs.flatMap bfC ++ [S nm, S s, S s])) (h3 : Below w.heap.size w w') :
    OpPost bs nm s w (.returned (.tuple #[v, .bool true])) w' := by
  have : obOut bs nm s = bs ++ [⟨nm, s, s⟩] := by unfold obOut; rw [h0]; rfl
  exact ⟨v, by rw [h0], by rw [this, List.length_append, List.flatMap_append]; exact h2, h3⟩

end Go.Proofs.Ytlejfmngpbcdhaa
