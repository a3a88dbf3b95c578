/- What is proved here: What is proved here: contracts of the program's HistoryBack and HistoryForth. What is proved here: the contract of the program's HistoryForth. No condition. -/
import Derived.Test.YtbjlkdenkmbepaaHistR
import Derived.StillTailTactics
namespace Go.Proofs.Ytbjlkdenkmbepaa
open Go.RowKit
set_option linter.unusedVariables false




end Go.Proofs.Ytbjlkdenkmbepaa

namespace Go.Proofs.Ytbjlkdenkmbepaa
open Go.RowKit
set_option linter.unusedVariables false

/-- the last of the first k states whose Parent is a. -/
def foTo (ms : List Mo) (a : Int) : Nat → Int
  | 0 => -1
  | k + 1 => if (ms.getD k m0).par = a then (k : Int) else foTo ms a k
theorem foTo_lt (ms : List Mo) (a : Int) (k : Nat) : -1 ≤ foTo ms a k ∧ foTo ms a k < k := by
  induction k with
  | zero => exact ⟨by simp [foTo], by simp [foTo]⟩
  | succ k ih =>
    unfold foTo
    split <;> omega


end Go.Proofs.Ytbjlkdenkmbepaa
