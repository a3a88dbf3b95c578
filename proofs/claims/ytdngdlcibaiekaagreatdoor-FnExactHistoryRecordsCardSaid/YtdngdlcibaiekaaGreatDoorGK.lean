/- What is proved here: small laws on rows and boxes when a row is written in place. No condition. -/
import Derived.Test.YtdngdlcibaiekaaGreatDoorMem
namespace Go.Proofs.YtdngdlcibaiekaaGreatDoor
open Go.RowKit
set_option linter.unusedVariables false

theorem ne_swap {a b : Option Nat} (h : a = none ∨ a ≠ b) : b = none ∨ b ≠ a := by
  rcases b with _ | b
  · exact .inl rfl
  · rcases h with rfl | h
    · exact .inr (by simp)
    · exact .inr fun e => h e.symm
theorem ho_ne {w : World} {base size n x : Nat} {e : TypeId} {v : Value} {xs : List Value} (h : Own w base e size v n xs) (hx : x < base) : v.ownBlock ≠ some x := fun he => by
  have := (h.lt x he).1; omega
theorem ho_gt {w : World} {base size n x : Nat} {e : TypeId} {v : Value} {xs : List Value} (h : Own w base e size v n xs) (hx : w.heap.size ≤ x) : v.ownBlock ≠ some x := fun he => by
  have := (h.lt x he).2; omega
theorem gk_c {a b : World} {A : Array Value} {x : Nat} {row : Option Nat} (h : a.grownBy b row) (hz : x < a.heap.size) (hn : row ≠ some x) (hc : ∀ o, a.cell? ⟨x, o, none⟩ = A[o]?) : ∀ o, b.cell? ⟨x, o, none⟩ = A[o]? :=
  fun o => (World.cell?_of_block (a := ⟨x, o, none⟩) (h.block x hz (fun e => hn e.symm))).trans (hc o)
theorem gk_f {a b : World} {x : Nat} {row : Option Nat} (h : a.grownBy b row) (hz : x < a.heap.size) (hn : row ≠ some x) (hc : ∀ o, a.frozen? ⟨x, o, none⟩ = false) : ∀ o, b.frozen? ⟨x, o, none⟩ = false :=
  fun o => (World.frozen?_of_block (a := ⟨x, o, none⟩) (h.block x hz (fun e => hn e.symm))).trans (hc o)
end Go.Proofs.YtdngdlcibaiekaaGreatDoor
