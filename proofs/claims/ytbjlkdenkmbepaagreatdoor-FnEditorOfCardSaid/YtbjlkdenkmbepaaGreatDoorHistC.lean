/- What is proved here: the copy of a history in the reference. No condition. -/
import Derived.Test.YtbjlkdenkmbepaaGreatDoorHistV
namespace Go.Proofs.YtbjlkdenkmbepaaGreatDoor
open Go.RowKit
set_option linter.unusedVariables false

theorem own_emptyM (w : World) (B : Nat) (hB : B ≤ w.heap.size) : Own (w.alloc (.cells #[] 96)) B 96 7 (.slice (some ⟨w.heap.size, 0, none⟩) 0 0) 0 [] :=
  World.ownsRow_lit (base := B) (e := 96) (size := 7) w #[] 0 hB (Nat.zero_le _) rfl

set_option maxRecDepth 100000 in
set_option maxHeartbeats 2000000 in
theorem l9Copy_any (v : Value) (ms : List Mo) (a : Int) (w : World) (h : RdM w v ms) (hn : ms.length ≤ 1048576) :
    Calls Tryz.prog 104 #[.agg #[v, .int .i64 a]] w (CopyPost ms a w) := by
  obtain ⟨A, c, rfl, _, _⟩ := h.1.form
  obtain ⟨i0, hi, hz0, hz1, hz2⟩ := info_parts mo_info
  have H2 := Lib.hid (fun (w' : World) (hb : Below w.heap.size w w') => (h.up hb).1)
  clear h
  go_enter Tryz.func104, Tryz.ntmps104
  go_wp2_with fail
  go_region_law (refine step_append_any _ rfl (.tmp 3) (.tmp 5) 23 rfl (w.heap.size + 2) 96 i0 _ 7 72 Tryz.underlying23 hi hz0 hz1 hz2 rfl (by decide) (.slice (some ⟨w.heap.size + 2, 0, none⟩) 0 0) 0 [] (by simp [Act.eval]) (own_up (by have := own_emptyM ((w.alloc (.cells #[.slice A ms.length c, .int .i64 a] 25)).alloc (.cells #[.slice none 0 0, .int .i64 0] 25)) (w.heap.size + 2) (by simp); simpa using this) (Below.drew (Below.refl _ _))) (.slice A ms.length c) ms.length _ (by simp [Act.eval]) (H2.out _ (by (repeat (first | exact Below.refl _ _ | assumption | refine Below.drew ?_ | refine up_drewN ?_ _ | refine up_alloc ?_ _ | refine up_set ?_ _ _ (by first | exact Nat.le_refl _ | (simp; done) | (simp; omega) | omega) | refine up_trans ?_ (by assumption))))) (mo_oneCell ms) (by unfold maxLen; omega) (by omega) (by simp) ?_; intro v1 w1 how hgr; have hgr2 : World.grownBy _ w1 (some (w.heap.size + 2)) := hgr; have xc := gup_c (x := w.heap.size) (A := #[.slice A ms.length c, .int .i64 a]) hgr2 (by simp; omega) (by omega) (fun o => by simp [go_sem]); have yc := gup_c (x := w.heap.size + 1) (A := #[.slice none 0 0, .int .i64 0]) hgr2 (by simp) (by omega) (fun o => by simp [go_sem]); have yf := gup_f (x := w.heap.size + 1) hgr2 (by simp) (by omega) (fun o => by simp [go_sem]); have hW := Lib.hid (show Below w.heap.size w w1 from up_grown (by (repeat (first | exact Below.refl _ _ | assumption | refine Below.drew ?_ | refine up_drewN ?_ _ | refine up_alloc ?_ _ | refine up_set ?_ _ _ (by first | exact Nat.le_refl _ | (simp; done) | (simp; omega) | omega) | refine up_trans ?_ (by assumption)))) hgr2 (by intro k hk; injection hk; omega)); have HO := Lib.hid how; obtain ⟨A1, c1, rfl, -, -⟩ := (RdL.of_own (f := moC) (bs := ms) (by simpa using how)).form; clear hgr hgr2 how)
  all_goals
    go_wp2_with fail
    refine bodyPost_ret (v := .agg #[.slice A1 ms.length c1, .int .i64 a]) (by simp [results, Tryz.results104, go_sem, yc]) rfl ⟨_, rfl, ?_, by have hQ := hW.out; (repeat (first | exact Below.refl _ _ | assumption | refine Below.drew ?_ | refine up_drewN ?_ _ | refine up_alloc ?_ _ | refine up_set ?_ _ _ (by first | exact Nat.le_refl _ | (simp; done) | (simp; omega) | omega) | refine up_trans ?_ (by assumption)))⟩
    have h1 := HO.out
    rw [Nat.zero_add, List.nil_append] at h1
    exact own_base (own_set (own_set h1 _ _ (by simp)) _ _ (by simp)) (by omega)

end Go.Proofs.YtbjlkdenkmbepaaGreatDoor
