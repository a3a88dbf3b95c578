/- What is proved here: words for the library's MaxLen: its cell holds an int, in each well-shaped world and in each that comes from it. No condition. -/
import Derived.Test.YtbjlkdenkmbepaaGreatDoorMem
import Derived.Shelf.Vars
namespace Go.Proofs.YtbjlkdenkmbepaaGreatDoor
open Go.RowKit

/-- the cell of bytealg.MaxLen holds an int. -/
def MX (w : World) : Prop := ∃ m : Int, w.cell? ⟨0, 0, none⟩ = some (.int .i64 m)
theorem MX.lt {w : World} (h : MX w) : 0 < w.heap.size := by
  obtain ⟨m, h⟩ := h
  rcases Nat.lt_or_ge 0 w.heap.size with hl | hl
  · exact hl
  · have hn : w.heap[0]? = none := Array.getElem?_eq_none hl
    simp [World.cell?, hn] at h
theorem MX.up {w w' : World} (h : MX w) (hb : Below w.heap.size w w') : MX w' := by
  have hl := h.lt
  obtain ⟨m, h⟩ := h
  exact ⟨m, (hb.cell (p := ⟨0, 0, none⟩) hl).trans h⟩
theorem mx_of {w : World} (h : w.ShapedOpen Tryz.prog) : MX w :=
  cell_of_shapedOpen_int (zero := #[.int .i64 0]) (t := 3) h (of_decide_eq_true (by kernel_rfl)) (by kernel_rfl) rfl (by kernel_rfl) (by kernel_rfl) Tryz.underlying3

end Go.Proofs.YtbjlkdenkmbepaaGreatDoor
