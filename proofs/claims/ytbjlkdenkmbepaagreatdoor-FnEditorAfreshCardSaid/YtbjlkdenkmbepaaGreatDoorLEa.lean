/- What is proved here: the walk of the law FnEditorAfresh. Condition: what the library's variables hold. -/
import Derived.Test.YtbjlkdenkmbepaaGreatDoorL20E
import Derived.Test.YtbjlkdenkmbepaaGreatDoorEdA
import Derived.Test.YtbjlkdenkmbepaaGreatDoorLin2
namespace Go.Proofs.YtbjlkdenkmbepaaGreatDoor
open Go.RowKit
set_option linter.unusedVariables false

set_option maxRecDepth 100000 in
set_option maxHeartbeats 1000000 in
theorem editorAfresh_walk (v : Value) (n : Nat) (zs : List Int) (w : World) (h : Bytes w w.heap.size v n zs) (hL : LW w) :
    Calls Tryz.prog 8 #[v] w fun e w' => e = .returned (.bool true) ∧ Below w.heap.size w w' := by
  have h' := h
  obtain ⟨h1, h2, A, c, rfl, h3, h4, h5⟩ := h
  clear h5 h2 h1 h4
  by_cases hn : n ≤ 1048576
  case neg =>
    go_enter Tryz.func8, Tryz.ntmps8
    go_wp2_with fail
    go_ret
    exact ⟨rfl, Below.refl _ _⟩
  have hW := Below.refl w.heap.size w
  have HL := Lib.hid hL
  clear hL
  go_enter Tryz.func8, Tryz.ntmps8
  go_wp2_with fail
  refine (drawEditorAfresh_any _ n zs _ (h'.to (by (repeat (first | exact Below.refl _ _ | assumption | refine Below.drew ?_ | refine up_drewN ?_ _ | refine up_alloc ?_ _ | refine up_set ?_ _ _ (by first | exact Nat.le_refl _ | (simp; done) | (simp; omega) | omega) | refine up_trans ?_ (by assumption)))))).mono ?_
  rintro e w1 ⟨ed, u, rfl, hk, ho, hb⟩
  have hB : Below w.heap.size w w1 := (by (repeat (first | exact Below.refl _ _ | assumption | refine Below.drew ?_ | refine up_drewN ?_ _ | refine up_alloc ?_ _ | refine up_set ?_ _ _ (by first | exact Nat.le_refl _ | (simp; done) | (simp; omega) | omega) | refine up_trans ?_ (by assumption)))); have sw1 := hB.size; replace hW := up_trans hW hB; clear hB
  clear hb h'
  have hrd := DrE_rd ho hk
  obtain ⟨k1, k2, k3, k4⟩ := hk
  obtain ⟨s, x, cl, ms, pa⟩ := ed
  simp only at *
  obtain ⟨UA, UC, rfl, -, -⟩ := (RdL.of_own (f := moC) (bs := ms) ho).form
  have HR1 := Lib.hid hrd
  have hsl : s.length ≤ maxLen := by unfold maxLen; omega
  have hcl : cl.length ≤ maxLen := by unfold maxLen; omega
  clear ho hrd k4
  unfold edW edAgg
  simp only
  go_upto_region 4 with (fail)
  obtain ⟨W2, hw⟩ : ∃ z, z = w1.alloc (.cells #[S s, .int .i64 x, S cl, .slice UA ms.length UC, .int .i64 pa] 27) := ⟨_, rfl⟩
  rw [← hw]
  have xI : Is W2 w1.heap.size #[S s, .int .i64 x, S cl, .slice UA ms.length UC, .int .i64 pa] := by rw [hw]; exact new_is w1 _ _
  have hB2 : Below w1.heap.size w1 W2 := by rw [hw]; exact up_alloc (Below.refl _ _) _
  have xz : w1.heap.size < W2.heap.size := by rw [hw]; simp
  have xc := xI.1
  have HR := Lib.hid (HR1.out.up hB2)
  have HW := Lib.hid (up_trans hW hB2)
  clear hw HR1 hW xI hB2
  have EV := Lib.hid (fun (w' : World) (h' : RdM w' (.slice UA ms.length UC) ms) => specEditorValid_any (.slice UA ms.length UC) ms pa s x cl w' h' (by omega) hsl hcl)
  by_cases hok : EdOk ms pa s x cl
  · have IA := Lib.hid (fun (w' : World) (h' : RdM w' (.slice UA ms.length UC) ms) (hL' : LW w') => implEditorAfresh_yes (.slice UA ms.length UC) ms pa s x cl w' h' hok hL')
    have SA := Lib.hid (fun (w' : World) (h' : RdM w' (.slice UA ms.length UC) ms) => specEditorAfresh_yes (.slice UA ms.length UC) ms pa s x cl w' h' hok)
    have HH := Lib.hid (fun (w' : World) (h' : RdM w' (.slice UA ms.length UC) ms) (hL' : LW w') => (by
      obtain ⟨o, hg⟩ := hok.1
      exact implHr_yes (.slice UA ms.length UC) ms pa s w' o h' hg hL'.lt))
    unfold HrPost at HH
    have HOK := Lib.hid hok
    generalize hrR ms pa = rs at *
    unfold edAgg at IA SA EV
    unfold EvPost at EV
    clear hok
    go_wp2_with fail
    refine (IA.out _ HR.out (HL.out.up HW.out)).mono ?_
    rintro e w3 ⟨rfl, hb⟩
    replace xc := up_c hb xz xc
    replace xz := Nat.lt_of_lt_of_le xz hb.size
    replace HR := Lib.hid (HR.out.up hb)
    replace HW := Lib.hid (up_trans HW.out hb)
    clear hb IA
    go_wp2_with fail
    refine (SA.out _ HR.out).mono ?_
    rintro e w4 ⟨rfl, hb⟩
    replace xc := up_c hb xz xc
    replace xz := Nat.lt_of_lt_of_le xz hb.size
    replace HR := Lib.hid (HR.out.up hb)
    replace HW := Lib.hid (up_trans HW.out hb)
    clear hb SA
    go_wp2_with fail
    refine (EV.out _ HR.out).mono ?_
    rintro e w5 ⟨ok, rfl, hh, hb⟩
    obtain rfl : ok = true := hh.2 HOK.out
    replace xc := up_c hb xz xc
    replace xz := Nat.lt_of_lt_of_le xz hb.size
    replace HR := Lib.hid (HR.out.up hb)
    replace HW := Lib.hid (up_trans HW.out hb)
    clear hb hh EV
    go_wp2_with fail
    refine (HH.out _ HR.out (HL.out.up HW.out)).mono ?_
    rintro e w6 ⟨u6, rfl, ho6, hb⟩
    obtain ⟨A6, c6, rfl, -, -⟩ := (RdL.of_own (f := strC) (bs := rs) ho6).form
    replace HW := Lib.hid (up_trans HW.out hb)
    clear hb HH ho6
    go_wp2_with fail
    go_ret
    exact ⟨rfl, HW.out⟩
  · have IA := Lib.hid (fun (w' : World) (h' : RdM w' (.slice UA ms.length UC) ms) => implEditorAfresh_no (.slice UA ms.length UC) ms pa s x cl w' h' (by omega) hsl hcl hok)
    have SA := Lib.hid (fun (w' : World) (h' : RdM w' (.slice UA ms.length UC) ms) => specEditorAfresh_no (.slice UA ms.length UC) ms pa s x cl w' h' (by omega) hsl hcl hok)
    have HOK := Lib.hid hok
    unfold edAgg at IA SA EV
    unfold EvPost at EV
    clear hok
    go_wp2_with fail
    refine (IA.out _ HR.out).mono ?_
    rintro e w3 ⟨rfl, hb⟩
    replace xc := up_c hb xz xc
    replace xz := Nat.lt_of_lt_of_le xz hb.size
    replace HR := Lib.hid (HR.out.up hb)
    replace HW := Lib.hid (up_trans HW.out hb)
    clear hb IA
    go_wp2_with fail
    refine (SA.out _ HR.out).mono ?_
    rintro e w4 ⟨rfl, hb⟩
    replace xc := up_c hb xz xc
    replace xz := Nat.lt_of_lt_of_le xz hb.size
    replace HR := Lib.hid (HR.out.up hb)
    replace HW := Lib.hid (up_trans HW.out hb)
    clear hb SA
    go_wp2_with fail
    refine (EV.out _ HR.out).mono ?_
    rintro e w5 ⟨ok, rfl, hh, hb⟩
    obtain rfl : ok = false := by
      rcases ok with _ | _
      · rfl
      · exact absurd (hh.1 rfl) HOK.out
    replace HW := Lib.hid (up_trans HW.out hb)
    clear hb hh EV HOK
    go_wp2_with fail
    refine (alive_any _).mono ?_
    rintro e w6 ⟨rfl, rfl⟩
    go_wp2_with fail
    go_ret
    exact ⟨rfl, HW.out⟩

end Go.Proofs.YtbjlkdenkmbepaaGreatDoor
