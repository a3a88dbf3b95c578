/- What is proved here: contracts of class, l8Kind, skip, nameValid, l24Name. No condition. -/
import Derived.Test.YtbjlkdenkmbepaaBase
import Derived.Test.YtbjlkdenkmbepaaText1
namespace Go.Proofs.Ytbjlkdenkmbepaa
open Go.RowKit


theorem l8Kind_any (c : Int) (w : World) :
    Calls Try.prog 51 #[.int .u8 c] w fun e w' => e = .returned (.int .i64 (cls c)) ∧ w = w' := by
  obtain ⟨q, hq⟩ : ∃ q, q = cls c := ⟨_, rfl⟩
  rw [← hq]
  have hq2 : q = if c = 32 ∨ c = 10 then 0 else if (48 ≤ c ∧ c ≤ 57) ∨ (97 ≤ c ∧ c ≤ 122) ∨ (65 ≤ c ∧ c ≤ 90) then 1 else 2 := hq
  clear hq
  have HQ := Lib.hid hq2
  clear hq2
  go_enter Try.func51, Try.ntmps51
  go_wp2
  all_goals
    go_ret
    refine ⟨ret_int ?_, rfl⟩
    rw [HQ.out]
    simp_all
    try omega




end Go.Proofs.Ytbjlkdenkmbepaa
