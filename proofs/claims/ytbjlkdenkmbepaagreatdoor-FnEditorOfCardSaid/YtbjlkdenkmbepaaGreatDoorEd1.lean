/- What is proved here: contracts of szEditor, toEditor and eqEditor. No condition. -/
import Derived.Test.YtbjlkdenkmbepaaGreatDoorEd0
import Derived.Test.YtbjlkdenkmbepaaGreatDoorHistY
namespace Go.Proofs.YtbjlkdenkmbepaaGreatDoor
open Go.RowKit
set_option linter.unusedVariables false

def SzEPost (s cl : List UInt8) (ms : List Mo) (w : World) (e : Ending) (w' : World) : Prop := ∃ r : Int, e = .returned (.int .i64 r) ∧ r ≤ 1048576 ∧ (0 ≤ r → SmallM ms ∧ s.length ≤ 1048576 ∧ cl.length ≤ 1048576) ∧ Below w.heap.size w w'
set_option maxRecDepth 100000 in
set_option maxHeartbeats 1000000 in
theorem szEditor_any (v : Value) (ms : List Mo) (pa : Int) (s : List UInt8) (at_ : Int) (cl : List UInt8) (w : World) (h : RdM0 w v ms) (hs : s.length ≤ maxLen) (hc : cl.length ≤ maxLen) :
    Calls Tryz.prog 18 #[edAgg s at_ cl v pa, .int .i64 1048576] w (SzEPost s cl ms w) := by
  obtain ⟨A, c, rfl, hm, _⟩ := h.1.form
  unfold edAgg
  unfold maxLen at hs hc
  by_cases h1 : 1048576 < s.length
  · go_enter Tryz.func18, Tryz.ntmps18
    go_wp2_with fail
    go_ret
    exact ⟨-1, rfl, by omega, fun h => absurd h (by omega), by (repeat (first | exact Below.refl _ _ | assumption | refine Below.drew ?_ | refine up_drewN ?_ _ | refine up_alloc ?_ _ | refine up_set ?_ _ _ (by first | exact Nat.le_refl _ | (simp; done) | (simp; omega) | omega) | refine up_trans ?_ (by assumption)))⟩
  by_cases h2 : 1048576 - (s.length : Int) < cl.length
  · go_enter Tryz.func18, Tryz.ntmps18
    go_wp2_with fail
    go_ret
    exact ⟨-1, rfl, by omega, fun h => absurd h (by omega), by (repeat (first | exact Below.refl _ _ | assumption | refine Below.drew ?_ | refine up_drewN ?_ _ | refine up_alloc ?_ _ | refine up_set ?_ _ _ (by first | exact Nat.le_refl _ | (simp; done) | (simp; omega) | omega) | refine up_trans ?_ (by assumption)))⟩
  have g1 : 0 ≤ 1048576 - (s.length : Int) - (cl.length : Int) := by omega
  have g2 : 1048576 - (s.length : Int) - (cl.length : Int) ≤ 1048576 := by omega
  have Z := Lib.hid (fun (w' : World) (hb : Below w.heap.size w w') => szHistory_any (.slice A ms.length c) ms pa (1048576 - (s.length : Int) - (cl.length : Int)) w' (h.up hb) g1 g2)
  unfold SzMPost at Z
  have HG := Lib.hid (show SmallM ms → SmallM ms ∧ s.length ≤ 1048576 ∧ cl.length ≤ 1048576 from fun h => ⟨h, by omega, by omega⟩)
  unfold SzEPost
  generalize (SmallM ms ∧ s.length ≤ 1048576 ∧ cl.length ≤ 1048576) = G at *
  generalize SmallM ms = G0 at *
  clear h
  go_enter Tryz.func18, Tryz.ntmps18
  go_wp2_with fail
  refine (Z.out _ (by (repeat (first | exact Below.refl _ _ | assumption | refine Below.drew ?_ | refine up_drewN ?_ _ | refine up_alloc ?_ _ | refine up_set ?_ _ _ (by first | exact Nat.le_refl _ | (simp; done) | (simp; omega) | omega) | refine up_trans ?_ (by assumption))))).mono ?_
  rintro e w1 ⟨r, rfl, hr, hg, hb⟩
  have hW : Below w.heap.size w w1 := by (repeat (first | exact Below.refl _ _ | assumption | refine Below.drew ?_ | refine up_drewN ?_ _ | refine up_alloc ?_ _ | refine up_set ?_ _ _ (by first | exact Nat.le_refl _ | (simp; done) | (simp; omega) | omega) | refine up_trans ?_ (by assumption)))
  have HG0 := Lib.hid hg
  clear hb hg Z
  by_cases hr0 : r < 0
  · go_wp2_with fail
    go_ret
    exact ⟨-1, rfl, by omega, fun h => absurd h (by omega), by (repeat (first | exact Below.refl _ _ | assumption | refine Below.drew ?_ | refine up_drewN ?_ _ | refine up_alloc ?_ _ | refine up_set ?_ _ _ (by first | exact Nat.le_refl _ | (simp; done) | (simp; omega) | omega) | refine up_trans ?_ (by assumption)))⟩
  · go_wp2_with fail
    go_ret
    exact ⟨r, rfl, hr, fun h => HG.out (HG0.out h), by (repeat (first | exact Below.refl _ _ | assumption | refine Below.drew ?_ | refine up_drewN ?_ _ | refine up_alloc ?_ _ | refine up_set ?_ _ _ (by first | exact Nat.le_refl _ | (simp; done) | (simp; omega) | omega) | refine up_trans ?_ (by assumption)))⟩

/-- a call that returns an editor whose history is the call's own. -/
def ToEPost (s : List UInt8) (at_ : Int) (cl : List UInt8) (ms : List Mo) (pa : Int) (w : World) (e : Ending) (w' : World) : Prop := ∃ v, e = .returned (edAgg s at_ cl v pa) ∧ OwnM w' w.heap.size v ms ∧ Below w.heap.size w w'
set_option maxRecDepth 100000 in
set_option maxHeartbeats 1000000 in
theorem toEditor_any (v : Value) (ms : List Mo) (pa : Int) (s : List UInt8) (at_ : Int) (cl : List UInt8) (w : World) (h : RdM0 w v ms) (hn : ms.length ≤ 1048576) :
    Calls Tryz.prog 20 #[edAgg s at_ cl v pa] w (ToEPost s at_ cl ms pa w) := by
  obtain ⟨A, c, rfl, _, _⟩ := h.1.form
  have T := Lib.hid (fun (w' : World) (hb : Below w.heap.size w w') => toHistory_any (.slice A ms.length c) ms pa w' (h.up hb) hn)
  clear h
  unfold CopyPost at T
  unfold ToEPost edAgg
  go_enter Tryz.func20, Tryz.ntmps20
  go_wp2_with fail
  refine (T.out _ (by (repeat (first | exact Below.refl _ _ | assumption | refine Below.drew ?_ | refine up_drewN ?_ _ | refine up_alloc ?_ _ | refine up_set ?_ _ _ (by first | exact Nat.le_refl _ | (simp; done) | (simp; omega) | omega) | refine up_trans ?_ (by assumption))))).mono ?_
  rintro e w1 ⟨v1, rfl, ho1, hb⟩
  have yc : ∀ o, w1.cell? ⟨w.heap.size + 1, o, none⟩ = #[S [], .int .i64 0, S [], .slice none 0 0, .int .i64 0][o]? := (fun o => (hb.cell (p := ⟨w.heap.size + 1, o, none⟩) (by simp <;> omega)).trans (by simp [go_sem])); have yf : ∀ o, w1.frozen? ⟨w.heap.size + 1, o, none⟩ = false := (fun o => (hb.frozen (p := ⟨w.heap.size + 1, o, none⟩) (by simp <;> omega)).trans (by simp [go_sem])); have yz : w.heap.size + 1 < w1.heap.size := (by have := hb.size; (try simp at this); omega); have yy := yz
  have zc : ∀ o, w1.cell? ⟨w.heap.size + 2, o, none⟩ = #[S s, .int .i64 at_, S cl, .slice none 0 0, .int .i64 0][o]? := (fun o => (hb.cell (p := ⟨w.heap.size + 2, o, none⟩) (by simp <;> omega)).trans (by simp [go_sem])); have zf : ∀ o, w1.frozen? ⟨w.heap.size + 2, o, none⟩ = false := (fun o => (hb.frozen (p := ⟨w.heap.size + 2, o, none⟩) (by simp <;> omega)).trans (by simp [go_sem])); have zz : w.heap.size + 2 < w1.heap.size := (by have := hb.size; (try simp at this); omega); have zy := zz
  have hW : Below w.heap.size w w1 := by (repeat (first | exact Below.refl _ _ | assumption | refine Below.drew ?_ | refine up_drewN ?_ _ | refine up_alloc ?_ _ | refine up_set ?_ _ _ (by first | exact Nat.le_refl _ | (simp; done) | (simp; omega) | omega) | refine up_trans ?_ (by assumption)))
  have HO := Lib.hid (own_base ho1 (show w.heap.size + 3 ≤ _ by simp))
  obtain ⟨A1, c1, rfl, -, -⟩ := (RdL.of_own (f := moC) (bs := ms) ho1).form
  clear hb ho1 T
  go_wp2_with fail
  refine bodyPost_ret (v := .agg #[S s, .int .i64 at_, S cl, .slice A1 ms.length c1, .int .i64 pa]) (by simp [results, Tryz.results20, go_sem, yc]) rfl ⟨_, rfl, ?_, by (repeat refine up_set ?_ _ _ (by first | exact Nat.le_refl _ | (simp; done) | (simp; omega) | omega)); exact hW⟩
  exact own_base (own_set (own_set (own_set (own_set (own_set (own_set (own_set HO.out _ _ (by simp)) _ _ (by simp)) _ _ (by simp)) _ _ (by simp)) _ _ (by simp)) _ _ (by simp)) _ _ (by simp)) (by omega)

set_option maxRecDepth 100000 in
set_option maxHeartbeats 1000000 in
theorem eqEditor_same (u v : Value) (ms : List Mo) (pa : Int) (s : List UInt8) (at_ : Int) (cl : List UInt8) (w : World) (hu : RdL w 7 moC u ms) (hv : RdL w 7 moC v ms) :
    Calls Tryz.prog 22 #[edAgg s at_ cl u pa, edAgg s at_ cl v pa] w fun e w' => e = .returned (.bool true) ∧ Below w.heap.size w w' := by
  obtain ⟨A, c, rfl, hm, _⟩ := hu.form
  obtain ⟨B, d, rfl, _, _⟩ := hv.form
  have T := Lib.hid (fun (w' : World) (hb : Below w.heap.size w w') => eqHistory_same (.slice A ms.length c) (.slice B ms.length d) ms pa w' (hu.up hb) (hv.up hb))
  clear hu hv
  unfold edAgg
  go_enter Tryz.func22, Tryz.ntmps22
  go_wp2_with fail
  refine (T.out _ (by (repeat (first | exact Below.refl _ _ | assumption | refine Below.drew ?_ | refine up_drewN ?_ _ | refine up_alloc ?_ _ | refine up_set ?_ _ _ (by first | exact Nat.le_refl _ | (simp; done) | (simp; omega) | omega) | refine up_trans ?_ (by assumption))))).mono ?_
  rintro e w1 ⟨rfl, hb⟩
  have hW : Below w.heap.size w w1 := by (repeat (first | exact Below.refl _ _ | assumption | refine Below.drew ?_ | refine up_drewN ?_ _ | refine up_alloc ?_ _ | refine up_set ?_ _ _ (by first | exact Nat.le_refl _ | (simp; done) | (simp; omega) | omega) | refine up_trans ?_ (by assumption)))
  clear hb T
  go_wp2_with fail
  go_ret
  exact ⟨rfl, by (repeat (first | exact Below.refl _ _ | assumption | refine Below.drew ?_ | refine up_drewN ?_ _ | refine up_alloc ?_ _ | refine up_set ?_ _ _ (by first | exact Nat.le_refl _ | (simp; done) | (simp; omega) | omega) | refine up_trans ?_ (by assumption)))⟩

end Go.Proofs.YtbjlkdenkmbepaaGreatDoor
