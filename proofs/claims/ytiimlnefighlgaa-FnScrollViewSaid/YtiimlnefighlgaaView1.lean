/- What is proved here: contracts of the view's functions. No condition. -/
import Derived.Test.YtiimlnefighlgaaView0
namespace Go.Proofs.Ytiimlnefighlgaa
open Go.RowKit

theorem specViewValid_any (t h rows : Int) (w : World) :
    Calls Try.prog 15 #[.agg #[.int .i64 t, .int .i64 h], .int .i64 rows] w fun e w' => e = .returned (.bool (vvB t h rows)) ∧ Below w.heap.size w w' := by
  go_enter Try.func15, Try.ntmps15
  go_wp2_with (go_at_call 53; refine (l1In_any _ _ _ _).mono ?_; rintro e w' ⟨rfl, rfl⟩)
  all_goals
    go_ret
    exact ⟨ret_bool (by simp [vvB, *]), (Below.refl _ _).alloc (Nat.le_refl _) _⟩

theorem implViewValid_any (t h rows : Int) (w : World) :
    Calls Try.prog 17 #[.agg #[.int .i64 t, .int .i64 h], .int .i64 rows] w fun e w' => e = .returned (.bool (vvB t h rows)) ∧ Below w.heap.size w w' := by
  go_enter Try.func17, Try.ntmps17
  go_wp2_with (go_at_call 54; refine (in_any _ _ _ _).mono ?_; rintro e w' ⟨rfl, rfl⟩)
  all_goals
    go_ret
    exact ⟨ret_bool (by simp [vvB, *]), (Below.refl _ _).alloc (Nat.le_refl _) _⟩

theorem toView_any (t h : Int) (w : World) :
    Calls Try.prog 16 #[.agg #[.int .i64 t, .int .i64 h]] w fun e w' => e = .returned (.agg #[.int .i64 t, .int .i64 h]) ∧ Below w.heap.size w w' := by
  go_enter Try.func16, Try.ntmps16
  go_wp2
  refine bodyPost_ret (v := .agg #[.int .i64 t, .int .i64 h]) (by simp [results, Try.results16, go_sem]) rfl ⟨rfl, ?_⟩
  (repeat (first | exact Below.refl _ _ | assumption | refine Below.drew ?_ | refine up_drewN ?_ _ | refine up_alloc ?_ _ | refine up_set ?_ _ _ (by first | exact Nat.le_refl _ | (simp; done) | (simp; omega) | omega) | refine up_trans ?_ (by assumption)))

theorem exactViewValid_walk (t h rows : Int) (w : World) :
    Calls Try.prog 3 #[.agg #[.int .i64 t, .int .i64 h], .int .i64 rows] w fun e w' => e = .returned (.bool true) ∧ Below w.heap.size w w' := by
  go_enter Try.func3, Try.ntmps3
  go_wp2_with (first
    | (go_at_call 16; refine (toView_any _ _ _).mono ?_; rintro e w1 ⟨rfl, hb⟩; obtain ⟨hc, hf⟩ := bcell hb; have hz : w.heap.size < w1.heap.size := (by have := hb.size; (try simp at this); omega))
    | (go_at_call 15; refine (specViewValid_any _ _ _ _).mono ?_; rintro e w1 ⟨rfl, hb⟩; obtain ⟨hc, hf⟩ := bcell hb; have hz : w.heap.size < w1.heap.size := (by have := hb.size; (try simp at this); omega))
    | (go_at_call 17; refine (implViewValid_any _ _ _ _).mono ?_; rintro e w1 ⟨rfl, hb⟩; obtain ⟨hc, hf⟩ := bcell hb; have hz : w.heap.size < w1.heap.size := (by have := hb.size; (try simp at this); omega)))
  go_ret
  exact ⟨rfl, by (repeat (first | exact Below.refl _ _ | assumption | refine Below.drew ?_ | refine up_drewN ?_ _ | refine up_alloc ?_ _ | refine up_set ?_ _ _ (by first | exact Nat.le_refl _ | (simp; done) | (simp; omega) | omega) | refine up_trans ?_ (by assumption)))⟩
end Go.Proofs.Ytiimlnefighlgaa
