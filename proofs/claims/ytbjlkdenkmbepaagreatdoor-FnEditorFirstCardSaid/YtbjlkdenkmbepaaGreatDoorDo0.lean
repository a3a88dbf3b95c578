/- What is proved here: contracts of the program's clone of an editor and of travel. No condition. -/
import Derived.Test.YtbjlkdenkmbepaaGreatDoorEd0
import Derived.Test.YtbjlkdenkmbepaaGreatDoorEverL
import Derived.BigRegion
namespace Go.Proofs.YtbjlkdenkmbepaaGreatDoor
open Go.RowKit
set_option linter.unusedVariables false

/-- box b holds an editor. -/
def EdBox (w : World) (b : Nat) (s : List UInt8) (x : Int) (cl : List UInt8) (ms : List Mo) (pa : Int) : Prop :=
  ∃ v, Is w b #[S s, .int .i64 x, S cl, v, .int .i64 pa] ∧ RdM w v ms ∧ v.ownBlock ≠ some b ∧ b < w.heap.size
/-- an editor that was made anew. -/
def EdNew (s : List UInt8) (x : Int) (cl : List UInt8) (ms : List Mo) (pa : Int) (w : World) (e : Ending) (w' : World) : Prop :=
  ∃ u, e = .returned (edAgg s x cl u pa) ∧ OwnM w' w.heap.size u ms ∧ Below w.heap.size w w'

set_option maxRecDepth 100000 in
set_option maxHeartbeats 1000000 in
theorem edClone_any (v : Value) (ms : List Mo) (pa : Int) (s : List UInt8) (x : Int) (cl : List UInt8) (w : World) (h : RdM w v ms) (hn : ms.length ≤ 1048576) :
    Calls Tryz.prog 47 #[edAgg s x cl v pa] w (EdNew s x cl ms pa w) := by
  obtain ⟨A, c, rfl, _, _⟩ := h.1.form
  have C := Lib.hid (fun (w' : World) (hb : Below w.heap.size w w') => clone_any (.slice A ms.length c) ms pa w' (h.up hb) hn)
  unfold CopyPost at C
  unfold EdNew edAgg
  go_enter Tryz.func47, Tryz.ntmps47
  go_wp2_with fail
  refine (C.out _ (by (repeat (first | exact Below.refl _ _ | assumption | refine Below.drew ?_ | refine up_drewN ?_ _ | refine up_alloc ?_ _ | refine up_set ?_ _ _ (by first | exact Nat.le_refl _ | (simp; done) | (simp; omega) | omega) | refine up_trans ?_ (by assumption))))).mono ?_
  rintro e w1 ⟨v2, rfl, ho, hb⟩
  have yc : ∀ o, w1.cell? ⟨w.heap.size, o, none⟩ = #[S s, .int .i64 x, S cl, .slice A ms.length c, .int .i64 pa][o]? := (fun o => (hb.cell (p := ⟨w.heap.size, o, none⟩) (by simp <;> omega)).trans (by simp [go_sem])); have yf : ∀ o, w1.frozen? ⟨w.heap.size, o, none⟩ = false := (fun o => (hb.frozen (p := ⟨w.heap.size, o, none⟩) (by simp <;> omega)).trans (by simp [go_sem])); have yz : w.heap.size < w1.heap.size := (by have := hb.size; (try simp at this); omega); have yy := yz
  have zc : ∀ o, w1.cell? ⟨w.heap.size + 1, o, none⟩ = #[S [], .int .i64 0, S [], .slice none 0 0, .int .i64 0][o]? := (fun o => (hb.cell (p := ⟨w.heap.size + 1, o, none⟩) (by simp <;> omega)).trans (by simp [go_sem])); have zf : ∀ o, w1.frozen? ⟨w.heap.size + 1, o, none⟩ = false := (fun o => (hb.frozen (p := ⟨w.heap.size + 1, o, none⟩) (by simp <;> omega)).trans (by simp [go_sem])); have zz : w.heap.size + 1 < w1.heap.size := (by have := hb.size; (try simp at this); omega); have zy := zz
  have hW : Below w.heap.size w w1 := by (repeat (first | exact Below.refl _ _ | assumption | refine Below.drew ?_ | refine up_drewN ?_ _ | refine up_alloc ?_ _ | refine up_set ?_ _ _ (by first | exact Nat.le_refl _ | (simp; done) | (simp; omega) | omega) | refine up_trans ?_ (by assumption)))
  have HO := Lib.hid (own_base ho (show w.heap.size + 2 ≤ _ by simp))
  obtain ⟨A2, c2, rfl, -, -⟩ := (RdL.of_own (f := moC) (bs := ms) ho).form
  clear hb ho
  go_wp2_with fail
  refine bodyPost_ret (v := .agg #[S s, .int .i64 x, S cl, .slice A2 ms.length c2, .int .i64 pa]) (by simp [results, Tryz.results47, go_sem, zc]) rfl ⟨_, rfl, ?_, by (repeat refine up_set ?_ _ _ (by first | exact Nat.le_refl _ | (simp; done) | (simp; omega) | omega)); exact hW⟩
  exact own_base (own_set (own_set (own_set (own_set (own_set (own_set (own_set HO.out _ _ (by simp)) _ _ (by simp)) _ _ (by simp)) _ _ (by simp)) _ _ (by simp)) _ _ (by simp)) _ _ (by simp)) (by omega)

end Go.Proofs.YtbjlkdenkmbepaaGreatDoor
