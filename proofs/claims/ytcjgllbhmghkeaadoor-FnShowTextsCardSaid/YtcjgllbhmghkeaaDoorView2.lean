/- What is proved here: contracts of ScrollView and ShowRow, in the program and in the reference, and the walks of their exact laws. No condition. -/
import Derived.Test.YtcjgllbhmghkeaaDoorView1
import Derived.Test.YtcjgllbhmghkeaaDoorMem
namespace Go.Proofs.YtcjgllbhmghkeaaDoor
open Go.RowKit

theorem vvB_out {t k rows : Int} (hv : vvB t k rows = true) : 1 ≤ rows ∧ rows ≤ 121 ∧ 1 ≤ k ∧ k ≤ 30 ∧ 0 ≤ t ∧ t ≤ rows - 1 := by
  simp only [vvB, Bool.and_eq_true, inB_iff] at hv
  obtain ⟨⟨h1, h2⟩, h3⟩ := hv
  rw [IntWalk.wrap64_in _ (by omega)] at h3
  omega


theorem ret_view {a b c d : Int} (h1 : a = c) (h2 : b = d) : Ending.returned (.agg #[.int .i64 a, .int .i64 b]) = .returned (.agg #[.int .i64 c, .int .i64 d]) := by rw [h1, h2]

/-- what ScrollView gives. -/
def scrollT (t k rows d : Int) : Int := if vvB t k rows && inB d (-120) 120 then max 0 (min (t + d) (rows - 1)) else 0
def scrollH (t k rows d : Int) : Int := if vvB t k rows && inB d (-120) 120 then k else 0




/-- what ShowRow gives. -/
def showT (t k rows r : Int) : Int := if vvB t k rows && inB r 0 (rows - 1) then min r (max t (r - k + 1)) else 0
def showH (t k rows r : Int) : Int := if vvB t k rows && inB r 0 (rows - 1) then k else 0

theorem specShowRow_any (t k rows d : Int) (w : World) :
    Calls Tryd.prog 21 #[.agg #[.int .i64 t, .int .i64 k], .int .i64 rows, .int .i64 d] w fun e w' => e = .returned (.agg #[.int .i64 (showT t k rows d), .int .i64 (showH t k rows d)]) ∧ Below w.heap.size w w' := by
  have hT : showT t k rows d = if vvB t k rows && inB d 0 (rows - 1) then min d (max t (d - k + 1)) else 0 := rfl
  have hH : showH t k rows d = if vvB t k rows && inB d 0 (rows - 1) then k else 0 := rfl
  rw [hT, hH]
  clear hT hH
  rcases hv : vvB t k rows with _ | _ <;> rcases hd : inB d 0 (rows - 1) with _ | _
  case true.true =>
    have hb0 := vvB_out hv
    have hd' := inB_iff.1 hd
    simp only [Bool.and_self, if_true]
    go_enter Tryd.func21, Tryd.ntmps21
    go_wp2_with (first
      | (go_at_call 45; refine (specViewValid_any _ _ _ _).mono ?_; rintro e w1 ⟨rfl, hb⟩; obtain ⟨hc, hf⟩ := bcell hb; have hz : w.heap.size + 1 < w1.heap.size := (by have := hb.size; simp at this; omega); have c0_0 := hc w.heap.size 0 (by simp <;> omega); have c0_1 := hc w.heap.size 1 (by simp <;> omega); have c1_0 := hc (w.heap.size + 1) 0 (by simp <;> omega); have c1_1 := hc (w.heap.size + 1) 1 (by simp <;> omega); simp [go_sem] at c0_0 c0_1 c1_0 c1_1; clear hc)
      | (go_at_call 46; refine (l1In_any _ _ _ _).mono ?_; rintro e w1 ⟨rfl, rfl⟩))
    all_goals
      refine bodyPost_ret (v := .agg #[.int .i64 _, .int .i64 _]) (by simp [results, Tryd.results21, go_sem, *]; exact ⟨rfl, rfl⟩) rfl ⟨?_, ?_⟩
      · exact ret_view (by omega) rfl
      · (repeat (first | exact Below.refl _ _ | assumption | refine Below.drew ?_ | refine up_drewN ?_ _ | refine up_alloc ?_ _ | refine up_set ?_ _ _ (by first | exact Nat.le_refl _ | (simp; done) | (simp; omega) | omega) | refine up_trans ?_ (by assumption)))
  all_goals
    try have hb0 := vvB_out hv
    simp only [Bool.and_false, Bool.and_true, Bool.and_self, if_false, Bool.false_eq_true]
    go_enter Tryd.func21, Tryd.ntmps21
    go_wp2_with (first
      | (go_at_call 45; refine (specViewValid_any _ _ _ _).mono ?_; rintro e w1 ⟨rfl, hb⟩; obtain ⟨hc, hf⟩ := bcell hb; have hz : w.heap.size + 1 < w1.heap.size := (by have := hb.size; simp at this; omega); have c0_0 := hc w.heap.size 0 (by simp <;> omega); have c0_1 := hc w.heap.size 1 (by simp <;> omega); have c1_0 := hc (w.heap.size + 1) 0 (by simp <;> omega); have c1_1 := hc (w.heap.size + 1) 1 (by simp <;> omega); simp [go_sem] at c0_0 c0_1 c1_0 c1_1; clear hc)
      | (go_at_call 46; refine (l1In_any _ _ _ _).mono ?_; rintro e w1 ⟨rfl, rfl⟩))
    refine bodyPost_ret (v := .agg #[.int .i64 0, .int .i64 0]) (by simp [results, Tryd.results21, go_sem, *]) rfl ⟨rfl, ?_⟩
    (repeat (first | exact Below.refl _ _ | assumption | refine Below.drew ?_ | refine up_drewN ?_ _ | refine up_alloc ?_ _ | refine up_set ?_ _ _ (by first | exact Nat.le_refl _ | (simp; done) | (simp; omega) | omega) | refine up_trans ?_ (by assumption)))

theorem implShowRow_any (t k rows d : Int) (w : World) :
    Calls Tryd.prog 27 #[.agg #[.int .i64 t, .int .i64 k], .int .i64 rows, .int .i64 d] w fun e w' => e = .returned (.agg #[.int .i64 (showT t k rows d), .int .i64 (showH t k rows d)]) ∧ Below w.heap.size w w' := by
  have hT : showT t k rows d = if vvB t k rows && inB d 0 (rows - 1) then min d (max t (d - k + 1)) else 0 := rfl
  have hH : showH t k rows d = if vvB t k rows && inB d 0 (rows - 1) then k else 0 := rfl
  rw [hT, hH]
  clear hT hH
  rcases hv : vvB t k rows with _ | _ <;> rcases hd : inB d 0 (rows - 1) with _ | _
  case true.true =>
    have hb0 := vvB_out hv
    have hd' := inB_iff.1 hd
    simp only [Bool.and_self, if_true]
    go_enter Tryd.func27, Tryd.ntmps27
    go_wp2_with (first
      | (go_at_call 47; refine (implViewValid_any _ _ _ _).mono ?_; rintro e w1 ⟨rfl, hb⟩; obtain ⟨hc, hf⟩ := bcell hb; have hz : w.heap.size + 1 < w1.heap.size := (by have := hb.size; simp at this; omega); have c0_0 := hc w.heap.size 0 (by simp <;> omega); have c0_1 := hc w.heap.size 1 (by simp <;> omega); have c1_0 := hc (w.heap.size + 1) 0 (by simp <;> omega); have c1_1 := hc (w.heap.size + 1) 1 (by simp <;> omega); simp [go_sem] at c0_0 c0_1 c1_0 c1_1; clear hc)
      | (go_at_call 26; refine (in_any _ _ _ _).mono ?_; rintro e w1 ⟨rfl, rfl⟩))
    all_goals
      refine bodyPost_ret (v := .agg #[.int .i64 _, .int .i64 _]) (by simp [results, Tryd.results27, go_sem, *]; exact ⟨rfl, rfl⟩) rfl ⟨?_, ?_⟩
      · exact ret_view (by omega) rfl
      · (repeat (first | exact Below.refl _ _ | assumption | refine Below.drew ?_ | refine up_drewN ?_ _ | refine up_alloc ?_ _ | refine up_set ?_ _ _ (by first | exact Nat.le_refl _ | (simp; done) | (simp; omega) | omega) | refine up_trans ?_ (by assumption)))
  all_goals
    try have hb0 := vvB_out hv
    simp only [Bool.and_false, Bool.and_true, Bool.and_self, if_false, Bool.false_eq_true]
    go_enter Tryd.func27, Tryd.ntmps27
    go_wp2_with (first
      | (go_at_call 47; refine (implViewValid_any _ _ _ _).mono ?_; rintro e w1 ⟨rfl, hb⟩; obtain ⟨hc, hf⟩ := bcell hb; have hz : w.heap.size + 1 < w1.heap.size := (by have := hb.size; simp at this; omega); have c0_0 := hc w.heap.size 0 (by simp <;> omega); have c0_1 := hc w.heap.size 1 (by simp <;> omega); have c1_0 := hc (w.heap.size + 1) 0 (by simp <;> omega); have c1_1 := hc (w.heap.size + 1) 1 (by simp <;> omega); simp [go_sem] at c0_0 c0_1 c1_0 c1_1; clear hc)
      | (go_at_call 26; refine (in_any _ _ _ _).mono ?_; rintro e w1 ⟨rfl, rfl⟩))
    refine bodyPost_ret (v := .agg #[.int .i64 0, .int .i64 0]) (by simp [results, Tryd.results27, go_sem, *]) rfl ⟨rfl, ?_⟩
    (repeat (first | exact Below.refl _ _ | assumption | refine Below.drew ?_ | refine up_drewN ?_ _ | refine up_alloc ?_ _ | refine up_set ?_ _ _ (by first | exact Nat.le_refl _ | (simp; done) | (simp; omega) | omega) | refine up_trans ?_ (by assumption)))

end Go.Proofs.YtcjgllbhmghkeaaDoor
