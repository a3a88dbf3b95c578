/- What is proved here: contracts of LineMany and alive. No condition. -/
import Derived.Test.YtbjlkdenkmbepaaGreatDoorText1
import Derived.Test.YtbjlkdenkmbepaaGreatDoorShelf
namespace Go.Proofs.YtbjlkdenkmbepaaGreatDoor
open Go.RowKit

theorem implLineMany_any (l : List UInt8) (w : World) (hs : l.length ≤ maxLen) :
    Calls Tryz.prog 50 #[.string ⟨l.toArray⟩] w fun e w' => e = .returned (.int .i64 (if tv l then 1 + Lib.countByte l 10 else -1)) ∧ w = w' := by
  rcases hv : tv l with _ | _
  · go_enter Tryz.func50, Tryz.ntmps50
    go_wp2_with fail
    refine (implTextValid_any _ _ hs).mono ?_
    rintro e w1 ⟨rfl, rfl⟩
    go_wp2_with fail
    go_ret
    exact ⟨rfl, rfl⟩
  · have hl := tv_len hv
    have hc : Lib.countByte l 10 ≤ 120 := by unfold Lib.countByte; exact Nat.le_trans List.count_le_length hl
    go_enter Tryz.func50, Tryz.ntmps50
    go_wp2_with fail
    refine (implTextValid_any _ _ hs).mono ?_
    rintro e w1 ⟨rfl, rfl⟩
    go_wp2_with fail
    refine (Tryz.strings_Count_one _ _ _).mono ?_
    rintro e w1 ⟨rfl, rfl⟩
    go_wp2_with fail
    go_ret
    exact ⟨rfl, rfl⟩

theorem alive_any (w : World) : Calls Tryz.prog 16 #[] w fun e w' => e = .returned (.bool true) ∧ w = w' := by
  go_enter Tryz.func16, Tryz.ntmps16
  go_wp2_with fail
  refine (implLineMany_any [97, 10, 98] _ (by decide)).mono ?_
  rintro e w1 ⟨rfl, rfl⟩
  go_wp2_with fail
  go_ret
  exact ⟨rfl, rfl⟩

end Go.Proofs.YtbjlkdenkmbepaaGreatDoor
