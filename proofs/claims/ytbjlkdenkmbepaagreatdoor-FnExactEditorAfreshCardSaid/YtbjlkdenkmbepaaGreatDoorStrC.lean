/- What is proved here: words for rows of strings. No condition. -/
import Derived.Test.YtbjlkdenkmbepaaGreatDoorFlat
namespace Go.Proofs.YtbjlkdenkmbepaaGreatDoor
open Go.RowKit

def strC (l : List UInt8) : List Value := [S l]
theorem strC_len (l : List UInt8) : (strC l).length = 1 := rfl
theorem str_info : (Tryz.prog.info? 9).map (fun i => (i.zero, i.size, i.bytes)) = some (some (S []), 1, 16) := by kernel_rfl
def StrsPost (xs : List (List UInt8)) (w : World) (e : Ending) (w' : World) : Prop :=
  ∃ v, e = .returned v ∧ Own w' w.heap.size 9 1 v xs.length (xs.flatMap strC) ∧ Below w.heap.size w w'
theorem own_emptyS (w : World) (B : Nat) (hB : B ≤ w.heap.size) : Own (w.alloc (.cells #[] 9)) B 9 1 (.slice (some ⟨w.heap.size, 0, none⟩) 0 0) 0 [] :=
  World.ownsRow_lit (base := B) (e := 9) (size := 1) w #[] 0 hB (Nat.zero_le _) rfl

end Go.Proofs.YtbjlkdenkmbepaaGreatDoor
