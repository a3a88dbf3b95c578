/- What is proved here: the walk of the law FnExactReadRecord. Condition: what the library's variables hold. -/
import Derived.Test.YtdngdlcibaiekaaGreatDoorRcD
import Derived.Test.YtdngdlcibaiekaaGreatDoorEqCh
namespace Go.Proofs.YtdngdlcibaiekaaGreatDoor
open Go.RowKit
set_option linter.unusedVariables false

set_option maxRecDepth 100000 in
set_option maxHeartbeats 1000000 in
theorem exactReadRecord_walk (s : List UInt8) (hsz : (⟨⟨s⟩⟩ : ByteArray).size ≤ maxLen) (w : World) (hL : LW w) :
    Calls Tryz.prog 3 #[.string ⟨⟨s⟩⟩] w fun e w' => e = .returned (.bool true) ∧ Below w.heap.size w w' := by
  have hsz' : s.length ≤ maxLen := hsz
  unfold maxLen at hsz'
  clear hsz
  by_cases hs : s.length ≤ 1048576
  · have i1 : ¬ (1048576 : Int) < (s.length : Int) := by omega
    have HW := Lib.hid hL
    have A := Lib.hid (fun w => specReadRecord_any s w (by omega))
    have B := Lib.hid (fun w hw => implReadRecord_any s w hs hw)
    have E := Lib.hid (fun w => eqChange_same (rdC s) w)
    generalize rdC s = x at *
    generalize rdB s = b at *
    obtain ⟨xa, xc, xp⟩ := x
    unfold chAgg at A B E
    simp only at A B E
    clear hL
    go_enter Tryz.func3, Tryz.ntmps3
    go_wp2_with fail
    refine (A.out _).mono ?_
    rintro e w1 ⟨rfl, hb⟩
    have hW : Below w.heap.size w w1 := by (repeat (first | exact Below.refl _ _ | assumption | refine Below.drew ?_ | refine up_drewN ?_ _ | refine up_alloc ?_ _ | refine up_set ?_ _ _ (by first | exact Nat.le_refl _ | (simp; done) | (simp; omega) | omega) | refine up_trans ?_ (by assumption)))
    clear hb
    go_wp2_with fail
    refine (B.out _ (HW.out.up (up_alloc hW _))).mono ?_
    rintro e w2 ⟨rfl, hb⟩
    have xc : ∀ o, w2.cell? ⟨w1.heap.size, o, none⟩ = #[.int .i64 xa, .int .i64 xc, S xp][o]? := (fun o => (hb.cell (p := ⟨w1.heap.size, o, none⟩) (by simp <;> omega)).trans (by simp [go_sem])); have xf : ∀ o, w2.frozen? ⟨w1.heap.size, o, none⟩ = false := (fun o => (hb.frozen (p := ⟨w1.heap.size, o, none⟩) (by simp <;> omega)).trans (by simp [go_sem])); have xz : w1.heap.size < w2.heap.size := (by have := hb.size; (try simp at this); omega); have xy := xz
    replace hW := up_trans (up_alloc hW _) hb
    clear hb
    go_wp2_with fail
    refine (E.out _).mono ?_
    rintro e w3 ⟨rfl, hb⟩
    replace hW := up_trans (up_alloc hW _) hb
    clear hb
    rcases b with _ | _
    all_goals
      go_wp2_with fail
      go_ret
      exact ⟨rfl, hW⟩
  · have i1 : (1048576 : Int) < (s.length : Int) := by omega
    go_enter Tryz.func3, Tryz.ntmps3
    go_wp2_with fail
    go_ret
    exact ⟨rfl, by (repeat (first | exact Below.refl _ _ | assumption | refine Below.drew ?_ | refine up_drewN ?_ _ | refine up_alloc ?_ _ | refine up_set ?_ _ _ (by first | exact Nat.le_refl _ | (simp; done) | (simp; omega) | omega) | refine up_trans ?_ (by assumption)))⟩

end Go.Proofs.YtdngdlcibaiekaaGreatDoor
