/- What is proved here: the walk of the law FnExactShowTexts. Condition: the cell of the library's MaxLen holds an int. -/
import Derived.Test.YtcjgllbhmghkeaaDoorWr8
import Derived.Test.YtcjgllbhmghkeaaDoorStrS
namespace Go.Proofs.YtcjgllbhmghkeaaDoor
open Go.RowKit
set_option linter.unusedVariables false

theorem ne_swapS {a b : Option Nat} (h : a = none ∨ a ≠ b) : b = none ∨ b ≠ a := by
  rcases b with _ | b
  · exact .inl rfl
  · rcases h with rfl | h
    · exact .inr (by simp)
    · exact .inr fun e => h e.symm
set_option maxRecDepth 100000 in
set_option maxHeartbeats 1000000 in
theorem exactShowTexts_walk (s : List UInt8) (hs : s.length ≤ maxLen) (wd h p : Int) (w : World) (hm : MX w) :
    Calls Tryd.prog 3 #[S s, .int .i64 wd, .int .i64 h, .int .i64 p] w fun e w' => e = .returned (.bool true) ∧ Below w.heap.size w w' := by
  by_cases hl : s.length ≤ 1048576
  case neg =>
    have hl2 : (1048576 : Int) < (s.length : Int) := by omega
    go_enter Tryd.func3, Tryd.ntmps3
    go_wp2_with fail
    go_ret
    exact ⟨rfl, Below.refl _ _⟩
  have hl2 : ¬ (1048576 : Int) < (s.length : Int) := by omega
  have hW := Below.refl w.heap.size w
  have hL : (shX s wd h p).length ≤ 30 := by rw [shX_len]; exact (shA_in s wd h p).2.2.2
  have I := Lib.hid (fun w' (hb : Below w.heap.size w w') => implShowTexts_any s wd h p w' hs (hm.up hb))
  have SP := Lib.hid (fun w' => specShowTexts_any s wd h p w' hs)
  generalize shX s wd h p = xs at *
  unfold StrsPost at I SP
  clear hm
  go_enter Tryd.func3, Tryd.ntmps3
  go_wp2_with fail
  refine (SP.out _).mono ?_
  rintro e w1 ⟨v0, rfl, ho0, hb⟩
  have hB : Below w.heap.size w w1 := (by (repeat (first | exact Below.refl _ _ | assumption | refine Below.drew ?_ | refine up_drewN ?_ _ | refine up_alloc ?_ _ | refine up_set ?_ _ _ (by first | exact Nat.le_refl _ | (simp; done) | (simp; omega) | omega) | refine up_trans ?_ (by assumption)))); have sw1 := hB.size; replace hW := up_trans hW hB; clear hB
  clear hb SP
  go_wp2_with fail
  refine (I.out _ hW).mono ?_
  rintro e w2 ⟨g0, rfl, hg0, hb⟩
  have n2 := Lib.hid (own_ne ho0 hg0 (Nat.le_refl _))
  have hB : Below w1.heap.size w1 w2 := (by (repeat (first | exact Below.refl _ _ | assumption | refine Below.drew ?_ | refine up_drewN ?_ _ | refine up_alloc ?_ _ | refine up_set ?_ _ _ (by first | exact Nat.le_refl _ | (simp; done) | (simp; omega) | omega) | refine up_trans ?_ (by assumption)))); replace ho0 := own_up ho0 hB; have sw2 := hB.size; replace hW := up_trans hW hB; clear hB
  clear hb
  go_wp2_with fail
  refine (eqStringS_same _ _ xs _ (RdL.of_own hg0) (RdL.of_own ho0)).mono ?_
  rintro e w3 ⟨rfl, hb⟩
  have hB : Below w2.heap.size w2 w3 := (by (repeat (first | exact Below.refl _ _ | assumption | refine Below.drew ?_ | refine up_drewN ?_ _ | refine up_alloc ?_ _ | refine up_set ?_ _ _ (by first | exact Nat.le_refl _ | (simp; done) | (simp; omega) | omega) | refine up_trans ?_ (by assumption)))); replace ho0 := own_up ho0 hB; replace hg0 := own_up hg0 hB; have sw3 := hB.size; replace hW := up_trans hW hB; clear hB
  clear hb
  go_wp2_with fail
  refine (markStringS_any _ _ _ _ 1 _ (by omega) (by omega) (by omega) hg0).mono ?_
  rintro e w4 ⟨rfl, hg1, hgr⟩
  replace ho0 := ho0.kept hgr n2.out
  replace hW := up_grown hW hgr (own_lt hg0 (by omega))
  have sw4 : w3.heap.size ≤ w4.heap.size := hgr.size
  have HQ := Lib.hid (mkS_len 1 xs.length).symm
  clear hgr hg0 n2
  go_wp2_with fail
  refine (heldStringS_any _ xs.length 1 _ (by omega) (by omega) (by omega) (RdL.of_own (by rw [← HQ.out]; exact hg1))).mono ?_
  rintro e w5 ⟨rfl, hb⟩
  have hB : Below w4.heap.size w4 w5 := (by (repeat (first | exact Below.refl _ _ | assumption | refine Below.drew ?_ | refine up_drewN ?_ _ | refine up_alloc ?_ _ | refine up_set ?_ _ _ (by first | exact Nat.le_refl _ | (simp; done) | (simp; omega) | omega) | refine up_trans ?_ (by assumption)))); replace ho0 := own_up ho0 hB; replace hg1 := own_up hg1 hB; have sw5 := hB.size; replace hW := up_trans hW hB; clear hB
  clear hb
  have p1 : ¬ ((1 + xs.length : Nat) : Int) < 0 := by omega
  go_wp2_with fail
  refine (I.out _ hW).mono ?_
  rintro e w6 ⟨h0, rfl, hh0, hb⟩
  have hB : Below w5.heap.size w5 w6 := (by (repeat (first | exact Below.refl _ _ | assumption | refine Below.drew ?_ | refine up_drewN ?_ _ | refine up_alloc ?_ _ | refine up_set ?_ _ _ (by first | exact Nat.le_refl _ | (simp; done) | (simp; omega) | omega) | refine up_trans ?_ (by assumption)))); replace ho0 := own_up ho0 hB; replace hg1 := own_up hg1 hB; have sw6 := hB.size; replace hW := up_trans hW hB; clear hB
  clear hb I
  go_wp2_with fail
  refine (eqStringS_same _ _ xs _ (RdL.of_own hh0) (RdL.of_own ho0)).mono ?_
  rintro e w7 ⟨rfl, hb⟩
  have hB : Below w6.heap.size w6 w7 := (by (repeat (first | exact Below.refl _ _ | assumption | refine Below.drew ?_ | refine up_drewN ?_ _ | refine up_alloc ?_ _ | refine up_set ?_ _ _ (by first | exact Nat.le_refl _ | (simp; done) | (simp; omega) | omega) | refine up_trans ?_ (by assumption)))); replace hg1 := own_up hg1 hB; have sw7 := hB.size; replace hW := up_trans hW hB; clear hB
  clear hb hh0 ho0
  go_wp2_with fail
  refine (heldStringS_any _ xs.length 1 _ (by omega) (by omega) (by omega) (RdL.of_own (by rw [← HQ.out]; exact hg1))).mono ?_
  rintro e w8 ⟨rfl, hb⟩
  have hB : Below w7.heap.size w7 w8 := (by (repeat (first | exact Below.refl _ _ | assumption | refine Below.drew ?_ | refine up_drewN ?_ _ | refine up_alloc ?_ _ | refine up_set ?_ _ _ (by first | exact Nat.le_refl _ | (simp; done) | (simp; omega) | omega) | refine up_trans ?_ (by assumption)))); have sw8 := hB.size; replace hW := up_trans hW hB; clear hB
  clear hb
  go_wp2_with fail
  go_ret
  exact ⟨rfl, hW⟩

end Go.Proofs.YtcjgllbhmghkeaaDoor
