/- What is proved here: What is proved here: words for the library's MaxLen: its cell holds an int, in each well-shaped world and in each that comes from it. What is proved here: words for what the library's laid variables hold: the powers of ten, the two errors of strconv, MaxLen; and how they are kept. No condition. -/
import Derived.Test.YtbjlkdenkmbepaaGreatDoorBase
import Derived.Shelf.Vars
import Derived.Lib.LaidTab
import Derived.Lib.AppendIntMem
import Derived.MakeChecks
namespace Go.Proofs.YtbjlkdenkmbepaaGreatDoor
open Go.RowKit

/-- the cell of bytealg.MaxLen holds an int. -/
def MX (w : World) : Prop := ∃ m : Int, w.cell? ⟨0, 0, none⟩ = some (.int .i64 m)
theorem MX.lt {w : World} (h : MX w) : 0 < w.heap.size := by
  obtain ⟨m, h⟩ := h
  rcases Nat.lt_or_ge 0 w.heap.size with hl | hl
  · exact hl
  · have hn : w.heap[0]? = none := Array.getElem?_eq_none hl
    simp [World.cell?, hn] at h
theorem MX.up {w w' : World} (h : MX w) (hb : Below w.heap.size w w') : MX w' := by
  have hl := h.lt
  obtain ⟨m, h⟩ := h
  exact ⟨m, (hb.cell (p := ⟨0, 0, none⟩) hl).trans h⟩
theorem mx_of {w : World} (h : w.ShapedOpen Tryz.prog) : MX w :=
  cell_of_shapedOpen_int (zero := #[.int .i64 0]) (t := 3) h (of_decide_eq_true (by kernel_rfl)) (by kernel_rfl) rfl (by kernel_rfl) (by kernel_rfl) Tryz.underlying3

end Go.Proofs.YtbjlkdenkmbepaaGreatDoor

namespace Go.Proofs.YtbjlkdenkmbepaaGreatDoor
open Go.RowKit

/-- the powers of ten lie in their table. -/
def LT (w : World) : Prop := Lib.TabIs Tryz.prog w "internal/strconv.uint64pow10" .u64 Lib.pow10Tab
theorem pow_named : Tryz.prog.globalNamed "internal/strconv.uint64pow10" = some 3 := by kernel_rfl
theorem LT.up {w w' : World} (h : LT w) (hb : Below w.heap.size w w') : LT w' := by
  unfold LT Lib.TabIs World.var? at h ⊢
  rw [pow_named] at h ⊢
  simp only [Option.bind_some] at h ⊢
  have hlt : 3 < w.heap.size := by
    rcases Nat.lt_or_ge 3 w.heap.size with h' | h'
    · exact h'
    · simp [Array.getElem?_eq_none h'] at h
  rw [hb.block _ hlt]
  exact h
/-- the cell of a variable holds an interface's value. -/
def IFC (g : Nat) (w : World) : Prop := ∃ ev, w.cell? ⟨g, 0, none⟩ = some ev ∧ (ev = .nilIface ∨ ∃ te pe, ev = .iface te pe)
theorem IFC.lt {g : Nat} {w : World} (h : IFC g w) : g < w.heap.size := by
  obtain ⟨m, h, _⟩ := h
  rcases Nat.lt_or_ge g w.heap.size with hl | hl
  · exact hl
  · have hn : w.heap[g]? = none := Array.getElem?_eq_none hl
    simp [World.cell?, hn] at h
theorem IFC.up {g : Nat} {w w' : World} (h : IFC g w) (hb : Below w.heap.size w w') : IFC g w' := by
  have hl := h.lt
  obtain ⟨m, h, h2⟩ := h
  exact ⟨m, (hb.cell (p := ⟨g, 0, none⟩) hl).trans h, h2⟩
/-- all that reading a record wants. -/
structure LW (w : World) : Prop where
  mx : MX w
  syn : IFC 1 w
  rng : IFC 2 w
  lt : LT w
theorem LW.up {w w' : World} (h : LW w) (hb : Below w.heap.size w w') : LW w' := ⟨h.mx.up hb, h.syn.up hb, h.rng.up hb, h.lt.up hb⟩

end Go.Proofs.YtbjlkdenkmbepaaGreatDoor
