/- What is proved here: one law on own blocks. No condition. -/
import Derived.Test.YtaldlnbgloplbaaOpen2
import Derived.Test.YtaldlnbgloplbaaMarkB
namespace Go.Proofs.Ytaldlnbgloplbaa
open Go.RowKit

theorem ne_swap {a b : Option Nat} (h : a = none ∨ a ≠ b) : b = none ∨ b ≠ a := by
  rcases b with _ | b
  · exact .inl rfl
  · rcases h with rfl | h
    · exact .inr (by simp)
    · exact .inr fun e => h e.symm

end Go.Proofs.Ytaldlnbgloplbaa
