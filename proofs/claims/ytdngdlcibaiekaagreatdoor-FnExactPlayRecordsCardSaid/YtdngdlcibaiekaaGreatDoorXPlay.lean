/- What is proved here: the walk of the law FnExactPlayRecords. Condition: what the library's variables hold. -/
import Derived.Test.YtdngdlcibaiekaaGreatDoorRcP
import Derived.Test.YtdngdlcibaiekaaGreatDoorStrS
import Derived.Test.YtdngdlcibaiekaaGreatDoorStrT
namespace Go.Proofs.YtdngdlcibaiekaaGreatDoor
open Go.RowKit
set_option linter.unusedVariables false

set_option maxRecDepth 100000 in
set_option maxHeartbeats 1000000 in
theorem exactPlayRecords_walk (s : List UInt8) (hsz : (⟨⟨s⟩⟩ : ByteArray).size ≤ maxLen) (v : Value) (rs : List (List UInt8)) (w : World) (h : RdS w v rs) (hL : LW w) :
    Calls Tryz.prog 6 #[.string ⟨⟨s⟩⟩, v] w fun e w' => e = .returned (.bool true) ∧ Below w.heap.size w w' := by
  have hsz' : s.length ≤ maxLen := hsz
  unfold maxLen at hsz'
  clear hsz
  obtain ⟨A, c, rfl, _, _⟩ := h.1.form
  have H := Lib.hid h
  have HW := Lib.hid hL
  clear h hL
  by_cases hs : s.length ≤ 1048576
  · have i1 : ¬ (1048576 : Int) < (s.length : Int) := by omega
    have SZ := Lib.hid (szStringS_any (.slice A rs.length c) rs 1048576 w H.out (by omega) (Int.le_refl _))
    unfold SzSPost at SZ
    go_enter Tryz.func6, Tryz.ntmps6
    go_wp2_with fail
    refine SZ.out.mono ?_
    rintro e w1 ⟨z, rfl, rfl, _, hz⟩
    by_cases h0 : 0 ≤ z
    · obtain ⟨hn, hr⟩ := hz h0
      have i2 : ¬ z < 0 := by omega
      have HR := Lib.hid hr
      have TS := Lib.hid (fun w hw => toStringS_any (.slice A rs.length c) rs w hw hn)
      unfold ToSPost at TS
      clear SZ hz hr h0
      go_wp2_with fail
      refine (TS.out _ H.out).mono ?_
      rintro e w1 ⟨v1, rfl, ho1, hb⟩
      have HV1 := Lib.hid (RdL.of_own (f := strC) (bs := rs) ho1)
      have hW := hb
      clear hb ho1
      go_wp2_with fail
      refine (specPlay_any s v1 rs _ (by omega) HV1.out HR.out).mono ?_
      rintro e w2 ⟨rfl, hb⟩
      replace hW := up_trans hW hb
      clear hb HV1
      go_wp2_with fail
      refine (TS.out _ (H.out.up hW)).mono ?_
      rintro e w3 ⟨v3, rfl, ho3, hb⟩
      have HV3 := Lib.hid (RdL.of_own (f := strC) (bs := rs) ho3)
      replace hW := up_trans hW hb
      clear hb ho3
      go_wp2_with fail
      refine (implPlay_any s v3 rs _ (by omega) HV3.out HR.out (HW.out.up hW)).mono ?_
      rintro e w4 ⟨rfl, hb⟩
      have HV4 := Lib.hid (RdL.up HV3.out hb)
      replace hW := up_trans hW hb
      clear hb HV3
      generalize plS s rs = ps at *
      generalize plN s rs = pn at *
      go_wp2_with fail
      refine (TS.out _ (H.out.up hW)).mono ?_
      rintro e w5 ⟨v5, rfl, ho5, hb⟩
      have HV5 := Lib.hid (RdL.of_own (f := strC) (bs := rs) ho5)
      have HV6 := Lib.hid (RdL.up HV4.out hb)
      replace hW := up_trans hW hb
      clear hb ho5 HV4
      go_wp2_with fail
      refine (eqStringS_same v3 v5 rs _ HV6.out HV5.out).mono ?_
      rintro e w6 ⟨rfl, hb⟩
      replace hW := up_trans hW hb
      clear hb
      go_wp2_with fail
      go_ret
      exact ⟨rfl, hW⟩
    · have i2 : z < 0 := by omega
      go_wp2_with fail
      go_ret
      exact ⟨rfl, by (repeat (first | exact Below.refl _ _ | assumption | refine Below.drew ?_ | refine up_drewN ?_ _ | refine up_alloc ?_ _ | refine up_set ?_ _ _ (by first | exact Nat.le_refl _ | (simp; done) | (simp; omega) | omega) | refine up_trans ?_ (by assumption)))⟩
  · have i1 : (1048576 : Int) < (s.length : Int) := by omega
    go_enter Tryz.func6, Tryz.ntmps6
    go_wp2_with fail
    go_ret
    exact ⟨rfl, by (repeat (first | exact Below.refl _ _ | assumption | refine Below.drew ?_ | refine up_drewN ?_ _ | refine up_alloc ?_ _ | refine up_set ?_ _ _ (by first | exact Nat.le_refl _ | (simp; done) | (simp; omega) | omega) | refine up_trans ?_ (by assumption)))⟩

end Go.Proofs.YtdngdlcibaiekaaGreatDoor
