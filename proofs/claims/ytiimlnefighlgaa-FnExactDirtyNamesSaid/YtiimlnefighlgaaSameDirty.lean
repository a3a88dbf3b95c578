/- What is proved here: the walk of the law FnExactDirtyNames. No condition. -/
import Derived.Test.YtiimlnefighlgaaDirty2
import Derived.Test.YtiimlnefighlgaaStrS
import Derived.Test.YtiimlnefighlgaaMarkB
namespace Go.Proofs.Ytiimlnefighlgaa
open Go.RowKit
set_option linter.unusedVariables false

set_option maxRecDepth 100000 in
set_option maxHeartbeats 1000000 in
theorem exactDirtyNames_walk (v : Value) (bs : List Bf) (w : World) (h : RdB w v bs) :
    Calls Try.prog 14 #[v] w fun e w' => e = .returned (.bool true) ∧ Below w.heap.size w w' := by
  have hW := Below.refl w.heap.size w
  have hL := dnOut_len bs
  obtain ⟨A, c, rfl, hm, _⟩ := h.1.form
  go_enter Try.func14, Try.ntmps14
  go_wp2_with fail
  refine (szBufferS_any _ bs _ _ h (by omega) (by omega)).mono ?_
  rintro e w1 ⟨r, rfl, hr1, hr2, hb⟩
  have hB : Below w.heap.size w w1 := (by (repeat (first | exact Below.refl _ _ | assumption | refine Below.drew ?_ | refine up_drewN ?_ _ | refine up_alloc ?_ _ | refine up_set ?_ _ _ (by first | exact Nat.le_refl _ | (simp; done) | (simp; omega) | omega) | refine up_trans ?_ (by assumption)))); have sw1 := hB.size; replace hW := up_trans hW hB; clear hB
  clear hb
  by_cases hr0 : r < 0
  · clear hr2
    go_wp2_with fail
    go_ret
    exact ⟨rfl, hW⟩
  have hs1 := (hr2 (by omega)).1
  clear hr2
  go_wp2_with fail
  refine (toBufferS_any _ bs _ (h.up hW) hs1).mono ?_
  rintro e w2 ⟨y1, rfl, hy1, hb⟩
  have hB : Below w1.heap.size w1 w2 := (by (repeat (first | exact Below.refl _ _ | assumption | refine Below.drew ?_ | refine up_drewN ?_ _ | refine up_alloc ?_ _ | refine up_set ?_ _ _ (by first | exact Nat.le_refl _ | (simp; done) | (simp; omega) | omega) | refine up_trans ?_ (by assumption)))); have sw2 := hB.size; replace hW := up_trans hW hB; clear hB
  clear hb
  go_wp2_with fail
  refine (specDirtyNames_any _ bs _ ⟨RdL.of_own hy1, h.2⟩).mono ?_
  rintro e w3 ⟨v0, rfl, ho0, hb⟩
  have hB : Below w2.heap.size w2 w3 := (by (repeat (first | exact Below.refl _ _ | assumption | refine Below.drew ?_ | refine up_drewN ?_ _ | refine up_alloc ?_ _ | refine up_set ?_ _ _ (by first | exact Nat.le_refl _ | (simp; done) | (simp; omega) | omega) | refine up_trans ?_ (by assumption)))); have sw3 := hB.size; replace hW := up_trans hW hB; clear hB
  clear hb hy1
  go_wp2_with fail
  refine (toBufferS_any _ bs _ (h.up hW) hs1).mono ?_
  rintro e w4 ⟨x0, rfl, hx0, hb⟩
  have n1 := Lib.hid (own_ne ho0 hx0 (Nat.le_refl _))
  have hB : Below w3.heap.size w3 w4 := (by (repeat (first | exact Below.refl _ _ | assumption | refine Below.drew ?_ | refine up_drewN ?_ _ | refine up_alloc ?_ _ | refine up_set ?_ _ _ (by first | exact Nat.le_refl _ | (simp; done) | (simp; omega) | omega) | refine up_trans ?_ (by assumption)))); replace ho0 := own_up ho0 hB; have sw4 := hB.size; replace hW := up_trans hW hB; clear hB
  clear hb
  go_wp2_with fail
  refine (implDirtyNames_any _ bs _ ⟨RdL.of_own hx0, h.2⟩).mono ?_
  rintro e w5 ⟨g0, rfl, hg0, hb⟩
  have n2 := Lib.hid (own_ne ho0 hg0 (Nat.le_refl _))
  have n3 := Lib.hid (own_ne hx0 hg0 (Nat.le_refl _))
  have hB : Below w4.heap.size w4 w5 := (by (repeat (first | exact Below.refl _ _ | assumption | refine Below.drew ?_ | refine up_drewN ?_ _ | refine up_alloc ?_ _ | refine up_set ?_ _ _ (by first | exact Nat.le_refl _ | (simp; done) | (simp; omega) | omega) | refine up_trans ?_ (by assumption)))); replace ho0 := own_up ho0 hB; replace hx0 := own_up hx0 hB; have sw5 := hB.size; replace hW := up_trans hW hB; clear hB
  clear hb
  go_wp2_with fail
  refine (eqStringS_same _ _ (dnOut bs) _ (RdL.of_own hg0) (RdL.of_own ho0)).mono ?_
  rintro e w6 ⟨rfl, hb⟩
  have hB : Below w5.heap.size w5 w6 := (by (repeat (first | exact Below.refl _ _ | assumption | refine Below.drew ?_ | refine up_drewN ?_ _ | refine up_alloc ?_ _ | refine up_set ?_ _ _ (by first | exact Nat.le_refl _ | (simp; done) | (simp; omega) | omega) | refine up_trans ?_ (by assumption)))); replace ho0 := own_up ho0 hB; replace hx0 := own_up hx0 hB; replace hg0 := own_up hg0 hB; have sw6 := hB.size; replace hW := up_trans hW hB; clear hB
  clear hb
  go_wp2_with fail
  refine (toBufferS_any _ bs _ (h.up hW) hs1).mono ?_
  rintro e w7 ⟨y2, rfl, hy2, hb⟩
  have hB : Below w6.heap.size w6 w7 := (by (repeat (first | exact Below.refl _ _ | assumption | refine Below.drew ?_ | refine up_drewN ?_ _ | refine up_alloc ?_ _ | refine up_set ?_ _ _ (by first | exact Nat.le_refl _ | (simp; done) | (simp; omega) | omega) | refine up_trans ?_ (by assumption)))); replace ho0 := own_up ho0 hB; replace hx0 := own_up hx0 hB; replace hg0 := own_up hg0 hB; have sw7 := hB.size; replace hW := up_trans hW hB; clear hB
  clear hb
  go_wp2_with fail
  refine (eqBufferS_same _ _ bs _ (RdL.of_own hx0) (RdL.of_own hy2)).mono ?_
  rintro e w8 ⟨rfl, hb⟩
  have hB : Below w7.heap.size w7 w8 := (by (repeat (first | exact Below.refl _ _ | assumption | refine Below.drew ?_ | refine up_drewN ?_ _ | refine up_alloc ?_ _ | refine up_set ?_ _ _ (by first | exact Nat.le_refl _ | (simp; done) | (simp; omega) | omega) | refine up_trans ?_ (by assumption)))); replace ho0 := own_up ho0 hB; replace hx0 := own_up hx0 hB; replace hg0 := own_up hg0 hB; have sw8 := hB.size; replace hW := up_trans hW hB; clear hB
  clear hb hy2
  go_wp2_with fail
  refine (markBufferS_any _ _ _ _ 1 _ (by omega) (by omega) hs1 hx0).mono ?_
  rintro e w9 ⟨rfl, _, hgr⟩
  replace ho0 := ho0.kept hgr n1.out
  replace hg0 := hg0.kept hgr (ne_swap n3.out)
  replace hW := up_grown hW hgr (own_lt hx0 (by omega))
  have sw9 : w8.heap.size ≤ w9.heap.size := hgr.size
  have p1 : ¬ ((1 + 3 * bs.length : Nat) : Int) < 0 := by omega
  clear hgr hx0 n1 n3
  go_wp2_with fail
  refine (eqStringS_same _ _ (dnOut bs) _ (RdL.of_own hg0) (RdL.of_own ho0)).mono ?_
  rintro e w10 ⟨rfl, hb⟩
  have hB : Below w9.heap.size w9 w10 := (by (repeat (first | exact Below.refl _ _ | assumption | refine Below.drew ?_ | refine up_drewN ?_ _ | refine up_alloc ?_ _ | refine up_set ?_ _ _ (by first | exact Nat.le_refl _ | (simp; done) | (simp; omega) | omega) | refine up_trans ?_ (by assumption)))); replace ho0 := own_up ho0 hB; replace hg0 := own_up hg0 hB; have sw10 := hB.size; replace hW := up_trans hW hB; clear hB
  clear hb p1
  go_wp2_with fail
  refine (markStringS_any _ _ _ _ 1 _ (by omega) (by omega) (by omega) hg0).mono ?_
  rintro e w11 ⟨rfl, hg1, hgr⟩
  replace ho0 := ho0.kept hgr n2.out
  replace hW := up_grown hW hgr (own_lt hg0 (by omega))
  have sw11 : w10.heap.size ≤ w11.heap.size := hgr.size
  have hq : (dnOut bs).length = (mkS 1 (dnOut bs).length).length := (mkS_len _ _).symm
  have HQ := Lib.hid hq
  clear hgr hg0 n2 hq
  go_wp2_with fail
  refine (heldStringS_any _ (dnOut bs).length 1 _ (by omega) (by omega) (by omega) (RdL.of_own (by rw [← HQ.out]; exact hg1))).mono ?_
  rintro e w12 ⟨rfl, hb⟩
  have hB : Below w11.heap.size w11 w12 := (by (repeat (first | exact Below.refl _ _ | assumption | refine Below.drew ?_ | refine up_drewN ?_ _ | refine up_alloc ?_ _ | refine up_set ?_ _ _ (by first | exact Nat.le_refl _ | (simp; done) | (simp; omega) | omega) | refine up_trans ?_ (by assumption)))); replace ho0 := own_up ho0 hB; replace hg1 := own_up hg1 hB; have sw12 := hB.size; replace hW := up_trans hW hB; clear hB
  clear hb
  have p1 : ¬ ((1 + (dnOut bs).length : Nat) : Int) < 0 := by omega
  go_wp2_with fail
  refine (toBufferS_any _ bs _ (h.up hW) hs1).mono ?_
  rintro e w13 ⟨y3, rfl, hy3, hb⟩
  have hB : Below w12.heap.size w12 w13 := (by (repeat (first | exact Below.refl _ _ | assumption | refine Below.drew ?_ | refine up_drewN ?_ _ | refine up_alloc ?_ _ | refine up_set ?_ _ _ (by first | exact Nat.le_refl _ | (simp; done) | (simp; omega) | omega) | refine up_trans ?_ (by assumption)))); replace ho0 := own_up ho0 hB; replace hg1 := own_up hg1 hB; have sw13 := hB.size; replace hW := up_trans hW hB; clear hB
  clear hb
  go_wp2_with fail
  refine (implDirtyNames_any _ bs _ ⟨RdL.of_own hy3, h.2⟩).mono ?_
  rintro e w14 ⟨h0, rfl, hh0, hb⟩
  have hB : Below w13.heap.size w13 w14 := (by (repeat (first | exact Below.refl _ _ | assumption | refine Below.drew ?_ | refine up_drewN ?_ _ | refine up_alloc ?_ _ | refine up_set ?_ _ _ (by first | exact Nat.le_refl _ | (simp; done) | (simp; omega) | omega) | refine up_trans ?_ (by assumption)))); replace ho0 := own_up ho0 hB; replace hg1 := own_up hg1 hB; have sw14 := hB.size; replace hW := up_trans hW hB; clear hB
  clear hb hy3
  go_wp2_with fail
  refine (eqStringS_same _ _ (dnOut bs) _ (RdL.of_own hh0) (RdL.of_own ho0)).mono ?_
  rintro e w15 ⟨rfl, hb⟩
  have hB : Below w14.heap.size w14 w15 := (by (repeat (first | exact Below.refl _ _ | assumption | refine Below.drew ?_ | refine up_drewN ?_ _ | refine up_alloc ?_ _ | refine up_set ?_ _ _ (by first | exact Nat.le_refl _ | (simp; done) | (simp; omega) | omega) | refine up_trans ?_ (by assumption)))); replace hg1 := own_up hg1 hB; have sw15 := hB.size; replace hW := up_trans hW hB; clear hB
  clear hb hh0 ho0
  go_wp2_with fail
  refine (heldStringS_any _ (dnOut bs).length 1 _ (by omega) (by omega) (by omega) (RdL.of_own (by rw [← HQ.out]; exact hg1))).mono ?_
  rintro e w16 ⟨rfl, hb⟩
  have hB : Below w15.heap.size w15 w16 := (by (repeat (first | exact Below.refl _ _ | assumption | refine Below.drew ?_ | refine up_drewN ?_ _ | refine up_alloc ?_ _ | refine up_set ?_ _ _ (by first | exact Nat.le_refl _ | (simp; done) | (simp; omega) | omega) | refine up_trans ?_ (by assumption)))); have sw16 := hB.size; replace hW := up_trans hW hB; clear hB
  clear hb
  go_wp2_with fail
  go_ret
  exact ⟨rfl, hW⟩

end Go.Proofs.Ytiimlnefighlgaa
