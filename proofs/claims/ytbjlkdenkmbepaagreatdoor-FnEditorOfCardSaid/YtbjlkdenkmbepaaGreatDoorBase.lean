/- What is proved here: small facts used by all later texts of this seat: hiding, Below over cells, the ranges test. No condition. -/
import Derived.Test.YtbjlkdenkmbepaaGreatDoorRows
import Derived.WalkKit
import Derived.WalkSpells
import Derived.WalkLawsBesides
import Derived.Lib.Hide
namespace Go.Proofs.YtbjlkdenkmbepaaGreatDoor
open Go.RowKit

theorem bcell {W w1 : World} (hb : Below W.heap.size W w1) : (∀ b o, b < W.heap.size → w1.cell? ⟨b, o, none⟩ = W.cell? ⟨b, o, none⟩) ∧ (∀ b o, b < W.heap.size → w1.frozen? ⟨b, o, none⟩ = W.frozen? ⟨b, o, none⟩) :=
  ⟨fun b o h => hb.cell (p := ⟨b, o, none⟩) h, fun b o h => hb.frozen (p := ⟨b, o, none⟩) h⟩

theorem up_trans {a b c : World} (h : Below a.heap.size a b) (k : Below b.heap.size b c) : Below a.heap.size a c := h.trans (k.mono h.size)
theorem up_alloc {a b : World} (h : Below a.heap.size a b) (o : Obj) : Below a.heap.size a (b.alloc o) := h.alloc h.size o
theorem up_set {a b : World} (h : Below a.heap.size a b) (p : Addr) (u : Value) (hp : a.heap.size ≤ p.block) : Below a.heap.size a (b.setCell p u) := h.setCell hp u

theorem up_drewN {a b : World} (h : Below a.heap.size a b) (n : Nat) : Below a.heap.size a (b.drewN n) := ⟨h.os, h.tape, h.output, h.size, h.block⟩
theorem up_c {w w1 : World} {b : Nat} {A : Array Value} (h : Below w.heap.size w w1) (hz : b < w.heap.size) (hc : ∀ o, w.cell? ⟨b, o, none⟩ = A[o]?) : ∀ o, w1.cell? ⟨b, o, none⟩ = A[o]? :=
  fun o => (h.cell (p := ⟨b, o, none⟩) hz).trans (hc o)
theorem up_f {w w1 : World} {b : Nat} (h : Below w.heap.size w w1) (hz : b < w.heap.size) (hc : ∀ o, w.frozen? ⟨b, o, none⟩ = false) : ∀ o, w1.frozen? ⟨b, o, none⟩ = false :=
  fun o => (h.frozen (p := ⟨b, o, none⟩) hz).trans (hc o)

/-- a byte of a string that is given as a list. -/
@[go_sem] theorem str_at (l : List UInt8) (k : Nat) (h : k < (ByteArray.mk l.toArray).size) : (ByteArray.mk l.toArray)[k]'h = l[k]'(show k < l.toArray.size from h) := rfl

@[go_sem] theorem str_app (a b : List UInt8) : (ByteArray.mk a.toArray) ++ (ByteArray.mk b.toArray) = ByteArray.mk (a ++ b).toArray := by
  apply ByteArray.ext
  simp [ByteArray.data_append]

/-- a number is in a range. -/
def inB (a lo hi : Int) : Bool := decide (lo ≤ a) && decide (a ≤ hi)
theorem inB_true {a lo hi : Int} (h1 : lo ≤ a) (h2 : a ≤ hi) : inB a lo hi = true := by simp [inB, h1, h2]
theorem inB_iff {a lo hi : Int} : inB a lo hi = true ↔ lo ≤ a ∧ a ≤ hi := by simp [inB]

theorem ret_int {k : IntKind} {a b : Int} (h : a = b) : Ending.returned (.int k a) = .returned (.int k b) := by rw [h]
theorem ret_bool {a b : Bool} (h : a = b) : Ending.returned (.bool a) = .returned (.bool b) := by rw [h]
end Go.Proofs.YtbjlkdenkmbepaaGreatDoor
