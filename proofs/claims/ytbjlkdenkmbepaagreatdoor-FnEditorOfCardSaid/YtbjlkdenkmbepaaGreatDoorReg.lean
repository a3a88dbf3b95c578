/- What is proved here: a region whose order is drawn, whose own operations only read, and whose callees leave old memory as it was, walked once in the order of the text. No condition. -/
import Derived.Test.YtbjlkdenkmbepaaGreatDoorMem
import Derived.Deep.QuietTactic
import Derived.BigQuiet
namespace Go.Proofs.YtbjlkdenkmbepaaGreatDoor
open Go.RowKit

/-- the worlds in which all that w holds is as it was. -/
def UpW (w : World) : Type := { w' : World // Below w.heap.size w w' }
def UpW.at (w : World) (x : UpW w) : World := x.1
theorem UpW.below {w : World} (x : UpW w) : Below w.heap.size w (x.at w) := x.2
theorem UpW.nonempty (w : World) : Nonempty (UpW w) := ⟨⟨w, Below.refl _ _⟩⟩
theorem UpW.mk_at {w w' : World} (h : Below w.heap.size w w') : ∃ x : UpW w, w' = x.at w := ⟨⟨w', h⟩, rfl⟩
@[go_sem] theorem UpW.cell (w : World) (x : UpW w) (b o : Nat) (h : b < w.heap.size) : (x.at w).cell? ⟨b, o, none⟩ = w.cell? ⟨b, o, none⟩ := x.2.cell (p := ⟨b, o, none⟩) h

theorem wp_region_up_lit {P : Program} {id : Nat} {Q : Exit → Act → World → Prop} {a : Act} {w : World} {l : List Oper} (hm : P.follows .mixedOrders = true) (hB : Region.lexB .any l.toArray = true)
    (h : wpQuiet P l.toArray (fun w' => ∃ x : UpW w, w' = x.at w) (fun a' => ∀ w', (∃ x : UpW w, w' = x.at w) → Q .normal a' w') l a) : (Code.region id l.toArray true).wp P Q a w :=
  wp_region_quiet (C := fun w' => ∃ x : UpW w, w' = x.at w) hm hB (UpW.mk_at ⟨rfl, rfl, rfl, Nat.le_refl _, fun _ _ => rfl⟩) (by simpa using h)

theorem calls_up {P : Program} {f : FuncId} {args : Array Value} {w : World} {x : UpW w} {v : Value}
    (h : Calls P f args (x.at w) fun e w' => e = .returned v ∧ Below (x.at w).heap.size (x.at w) w') : Calls P f args (x.at w) fun e w'' => e = .returned v ∧ ∃ y : UpW w, w'' = y.at w :=
  h.mono fun _ _ ⟨he, hb⟩ => ⟨he, UpW.mk_at (up_trans x.2 hb)⟩
theorem calls_up_same {P : Program} {f : FuncId} {args : Array Value} {w : World} {x : UpW w} {v : Value}
    (h : Calls P f args (x.at w) fun e w' => e = .returned v ∧ x.at w = w') : Calls P f args (x.at w) fun e w'' => e = .returned v ∧ ∃ y : UpW w, w'' = y.at w :=
  h.mono fun _ _ ⟨he, hb⟩ => ⟨he, ⟨x, hb.symm⟩⟩

theorem UpW.out {w w' : World} (h : ∃ x : UpW w, w' = x.at w) : Below w.heap.size w w' := by
  obtain ⟨x, rfl⟩ := h
  exact x.2

end Go.Proofs.YtbjlkdenkmbepaaGreatDoor
