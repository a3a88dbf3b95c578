/- What is proved here: the contract of the reference's EditorOf at valid texts. No condition. -/
import Derived.Test.YtbjlkdenkmbepaaGreatDoorEd0
import Derived.Test.YtbjlkdenkmbepaaGreatDoorHNx
namespace Go.Proofs.YtbjlkdenkmbepaaGreatDoor
open Go.RowKit
set_option linter.unusedVariables false

/-- a new editor. -/
def ToES (s : List UInt8) (w : World) (e : Ending) (w' : World) : Prop := ∃ v, e = .returned (edAgg s 0 [] v 0) ∧ OwnM w' w.heap.size v [m0] ∧ Below w.heap.size w w'
set_option maxRecDepth 100000 in
set_option maxHeartbeats 1000000 in
theorem specEditorOf_good (s : List UInt8) (w : World) (ht : tv s = true) :
    Calls Tryz.prog 31 #[S s] w (ToES s w) := by
  have hs := tv_len ht
  have T := Lib.hid (fun w => specTextValid_any s w (by unfold maxLen; omega))
  have C := Lib.hid (fun w => specHistoryOf_any w)
  unfold CopyPost at C
  unfold ToES edAgg
  rw [ht] at T
  clear ht
  go_enter Tryz.func31, Tryz.ntmps31
  go_wp2_with fail
  refine (T.out _).mono ?_
  rintro e w1 ⟨rfl, rfl⟩
  go_wp2_with fail
  refine (C.out _).mono ?_
  rintro e w2 ⟨v2, rfl, ho, hb⟩
  have xc : ∀ o, w2.cell? ⟨w.heap.size, o, none⟩ = #[S [], .int .i64 0, S [], .slice none 0 0, .int .i64 0][o]? := (fun o => (hb.cell (p := ⟨w.heap.size, o, none⟩) (by simp <;> omega)).trans (by simp [go_sem])); have xf : ∀ o, w2.frozen? ⟨w.heap.size, o, none⟩ = false := (fun o => (hb.frozen (p := ⟨w.heap.size, o, none⟩) (by simp <;> omega)).trans (by simp [go_sem])); have xz : w.heap.size < w2.heap.size := (by have := hb.size; (try simp at this); omega); have xy := xz
  have hW : Below w.heap.size w w2 := by (repeat (first | exact Below.refl _ _ | assumption | refine Below.drew ?_ | refine up_drewN ?_ _ | refine up_alloc ?_ _ | refine up_set ?_ _ _ (by first | exact Nat.le_refl _ | (simp; done) | (simp; omega) | omega) | refine up_trans ?_ (by assumption)))
  have HO := Lib.hid (own_base ho (show w.heap.size + 1 ≤ _ by simp))
  obtain ⟨A2, c2, rfl, -, -⟩ := (RdL.of_own (f := moC) (bs := [m0]) ho).form
  clear hb ho
  simp only [List.length_cons, List.length_nil, Nat.zero_add] at HO ⊢
  go_wp2_with fail
  refine bodyPost_ret (v := .agg #[S s, .int .i64 0, S [], .slice A2 1 c2, .int .i64 0]) (by simp [results, Tryz.results31, go_sem, xc]) rfl ⟨_, rfl, ?_, by (repeat refine up_set ?_ _ _ (by first | exact Nat.le_refl _ | (simp; done) | (simp; omega) | omega)); exact hW⟩
  exact own_base (own_set (own_set (own_set (own_set (own_set HO.out _ _ (by simp)) _ _ (by simp)) _ _ (by simp)) _ _ (by simp)) _ _ (by simp)) (by omega)

end Go.Proofs.YtbjlkdenkmbepaaGreatDoor
