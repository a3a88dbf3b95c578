/- What is proved here: small laws for the exact laws on histories. No condition. -/
import Derived.Test.YtjcdklkdpcncgaaHBoth
import Derived.Test.YtjcdklkdpcncgaaMarkM
import Derived.Test.YtjcdklkdpcncgaaEver2
namespace Go.Proofs.Ytjcdklkdpcncgaa
open Go.RowKit
set_option linter.unusedVariables false

theorem ne_swap {a b : Option Nat} (h : a = none ∨ a ≠ b) : b = none ∨ b ≠ a := by
  rcases b with _ | b
  · exact .inl rfl
  · rcases h with rfl | h
    · exact .inr (by simp)
    · exact .inr fun e => h e.symm
theorem ho_ne {w : World} {base size n x : Nat} {e : TypeId} {v : Value} {xs : List Value} (h : Own w base e size v n xs) (hx : x < base) : v.ownBlock ≠ some x := fun he => by
  have := (h.lt x he).1; omega
theorem ho_gt {w : World} {base size n x : Nat} {e : TypeId} {v : Value} {xs : List Value} (h : Own w base e size v n xs) (hx : w.heap.size ≤ x) : v.ownBlock ≠ some x := fun he => by
  have := (h.lt x he).2; omega
theorem gk_c {a b : World} {A : Array Value} {x : Nat} {row : Option Nat} (h : a.grownBy b row) (hz : x < a.heap.size) (hn : row ≠ some x) (hc : ∀ o, a.cell? ⟨x, o, none⟩ = A[o]?) : ∀ o, b.cell? ⟨x, o, none⟩ = A[o]? :=
  fun o => (World.cell?_of_block (a := ⟨x, o, none⟩) (h.block x hz (fun e => hn e.symm))).trans (hc o)
theorem gk_f {a b : World} {x : Nat} {row : Option Nat} (h : a.grownBy b row) (hz : x < a.heap.size) (hn : row ≠ some x) (hc : ∀ o, a.frozen? ⟨x, o, none⟩ = false) : ∀ o, b.frozen? ⟨x, o, none⟩ = false :=
  fun o => (World.frozen?_of_block (a := ⟨x, o, none⟩) (h.block x hz (fun e => hn e.symm))).trans (hc o)
/-- a history as a value whose states can be read. -/
def tHisR (ms : List Mo) (a : Int) : Ty (RS []) := ⟨fun v w => ∃ u, v = .agg #[u, .int .i64 a] ∧ RdL w 7 moC u ms, fun _ _ _ hR ⟨u, hv, h⟩ => ⟨u, hv, h.up hR.to_below⟩⟩
theorem rdM0_of {w : World} {base : Nat} {v : Value} {ms : List Mo} (h : OwnM w base v ms) (hs : SmallM ms) : RdM w v ms := ⟨RdL.of_own h, hs.2⟩

end Go.Proofs.Ytjcdklkdpcncgaa
