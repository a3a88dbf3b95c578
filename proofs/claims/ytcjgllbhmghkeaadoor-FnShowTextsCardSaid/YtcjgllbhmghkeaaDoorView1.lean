/- What is proved here: contracts of the view's functions. No condition. -/
import Derived.Test.YtcjgllbhmghkeaaDoorView0
namespace Go.Proofs.YtcjgllbhmghkeaaDoor
open Go.RowKit

theorem specViewValid_any (t h rows : Int) (w : World) :
    Calls Tryd.prog 45 #[.agg #[.int .i64 t, .int .i64 h], .int .i64 rows] w fun e w' => e = .returned (.bool (vvB t h rows)) ∧ Below w.heap.size w w' := by
  go_enter Tryd.func45, Tryd.ntmps45
  go_wp2_with (go_at_call 46; refine (l1In_any _ _ _ _).mono ?_; rintro e w' ⟨rfl, rfl⟩)
  all_goals
    go_ret
    exact ⟨ret_bool (by simp [vvB, *]), (Below.refl _ _).alloc (Nat.le_refl _) _⟩

theorem implViewValid_any (t h rows : Int) (w : World) :
    Calls Tryd.prog 47 #[.agg #[.int .i64 t, .int .i64 h], .int .i64 rows] w fun e w' => e = .returned (.bool (vvB t h rows)) ∧ Below w.heap.size w w' := by
  go_enter Tryd.func47, Tryd.ntmps47
  go_wp2_with (go_at_call 26; refine (in_any _ _ _ _).mono ?_; rintro e w' ⟨rfl, rfl⟩)
  all_goals
    go_ret
    exact ⟨ret_bool (by simp [vvB, *]), (Below.refl _ _).alloc (Nat.le_refl _) _⟩


end Go.Proofs.YtcjgllbhmghkeaaDoor
