/- What is proved here: the walk of the law FnEditorValid. No condition. -/
import Derived.Test.YtbjlkdenkmbepaaL20E
import Derived.Test.YtbjlkdenkmbepaaEd0
import Derived.Test.YtbjlkdenkmbepaaLin2
namespace Go.Proofs.Ytbjlkdenkmbepaa
open Go.RowKit
set_option linter.unusedVariables false

set_option maxRecDepth 100000 in
set_option maxHeartbeats 1000000 in
theorem editorValid_walk (v : Value) (n : Nat) (zs : List Int) (w : World) (h : Bytes w w.heap.size v n zs) :
    Calls Try.prog 3 #[v] w fun e w' => e = .returned (.bool true) ∧ Below w.heap.size w w' := by
  have h' := h
  obtain ⟨h1, h2, A, c, rfl, h3, h4, h5⟩ := h
  clear h5 h2 h1 h4
  by_cases hn : n ≤ 1048576
  case neg =>
    go_enter Try.func3, Try.ntmps3
    go_wp2_with fail
    go_ret
    exact ⟨rfl, Below.refl _ _⟩
  have hW := Below.refl w.heap.size w
  go_enter Try.func3, Try.ntmps3
  go_wp2_with fail
  refine (drawEditorValid_any _ n zs _ (h'.to (by (repeat (first | exact Below.refl _ _ | assumption | refine Below.drew ?_ | refine up_drewN ?_ _ | refine up_alloc ?_ _ | refine up_set ?_ _ _ (by first | exact Nat.le_refl _ | (simp; done) | (simp; omega) | omega) | refine up_trans ?_ (by assumption)))))).mono ?_
  rintro e w1 ⟨ed, u, rfl, hk, ho, hb⟩
  have hB : Below w.heap.size w w1 := (by (repeat (first | exact Below.refl _ _ | assumption | refine Below.drew ?_ | refine up_drewN ?_ _ | refine up_alloc ?_ _ | refine up_set ?_ _ _ (by first | exact Nat.le_refl _ | (simp; done) | (simp; omega) | omega) | refine up_trans ?_ (by assumption)))); have sw1 := hB.size; replace hW := up_trans hW hB; clear hB
  clear hb h'
  have hrd := DrE_rd ho hk
  obtain ⟨k1, k2, k3, k4⟩ := hk
  obtain ⟨s, x, cl, ms, pa⟩ := ed
  simp only at *
  obtain ⟨UA, UC, rfl, -, -⟩ := (RdL.of_own (f := moC) (bs := ms) ho).form
  have HR1 := Lib.hid hrd
  have hsl : s.length ≤ maxLen := by unfold maxLen; omega
  have hcl : cl.length ≤ maxLen := by unfold maxLen; omega
  clear ho hrd k4
  unfold edW edAgg
  simp only
  go_upto_region 4 with (fail)
  obtain ⟨W2, hw⟩ : ∃ z, z = w1.alloc (.cells #[S s, .int .i64 x, S cl, .slice UA ms.length UC, .int .i64 pa] 27) := ⟨_, rfl⟩
  rw [← hw]
  have xI : Is W2 w1.heap.size #[S s, .int .i64 x, S cl, .slice UA ms.length UC, .int .i64 pa] := by rw [hw]; exact new_is w1 _ _
  have hB2 : Below w1.heap.size w1 W2 := by rw [hw]; exact up_alloc (Below.refl _ _) _
  have xz : w1.heap.size < W2.heap.size := by rw [hw]; simp
  have xc := xI.1
  have HR := Lib.hid (HR1.out.up hB2)
  have HW := Lib.hid (up_trans hW hB2)
  clear hw HR1 hW xI hB2
  have SV := Lib.hid (fun (w' : World) (h' : RdM w' (.slice UA ms.length UC) ms) => specEditorValid_any (.slice UA ms.length UC) ms pa s x cl w' h' (by omega) hsl hcl)
  have IV := Lib.hid (fun (y : Int) (w' : World) (h' : RdM w' (.slice UA ms.length UC) ms) => implEditorValid_any (.slice UA ms.length UC) ms pa s y cl w' h' (by omega) hsl hcl)
  have HB := Lib.hid (show ¬ EdOk ms pa s ((s.length : Int) + 1) cl from fun h => by have := inB_iff.1 h.2.1; omega)
  have a1 : IntKind.i64.wrap ((s.length : Int) + 1) = (s.length : Int) + 1 := by rw [IntWalk.i64_in _ (by omega)]
  unfold edAgg at SV IV
  unfold EvPost at SV IV
  go_wp2_with fail
  refine (IV.out _ _ HR.out).mono ?_
  rintro e w3 ⟨o1, rfl, hh1, hb⟩
  replace xc := up_c hb xz xc
  replace xz := Nat.lt_of_lt_of_le xz hb.size
  replace HR := Lib.hid (HR.out.up hb)
  replace HW := Lib.hid (up_trans HW.out hb)
  clear hb
  go_wp2_with fail
  refine (SV.out _ HR.out).mono ?_
  rintro e w4 ⟨o2, rfl, hh2, hb⟩
  obtain rfl : o1 = o2 := by
    rcases o1 with _ | _ <;> rcases o2 with _ | _
    · rfl
    · exact hh1.2 (hh2.1 rfl)
    · exact (hh2.2 (hh1.1 rfl)).symm
    · rfl
  replace xc := up_c hb xz xc
  replace xz := Nat.lt_of_lt_of_le xz hb.size
  replace HR := Lib.hid (HR.out.up hb)
  replace HW := Lib.hid (up_trans HW.out hb)
  have hbe : (o1 != o1) = false := by cases o1 <;> rfl
  clear hb SV hh1 hh2
  go_wp2_with fail
  refine (IV.out _ _ (HR.out.up (by (repeat (first | exact Below.refl _ _ | assumption | refine Below.drew ?_ | refine up_drewN ?_ _ | refine up_alloc ?_ _ | refine up_set ?_ _ _ (by first | exact Nat.le_refl _ | (simp; done) | (simp; omega) | omega) | refine up_trans ?_ (by assumption)))))).mono ?_
  rintro e w5 ⟨o3, rfl, hh, hb⟩
  obtain rfl : o3 = false := by
    rcases o3 with _ | _
    · rfl
    · exact absurd (hh.1 rfl) HB.out
  have HW5 := Lib.hid (up_trans (show Below w.heap.size w _ from (by have hQ := HW.out; (repeat (first | exact Below.refl _ _ | assumption | refine Below.drew ?_ | refine up_drewN ?_ _ | refine up_alloc ?_ _ | refine up_set ?_ _ _ (by first | exact Nat.le_refl _ | (simp; done) | (simp; omega) | omega) | refine up_trans ?_ (by assumption))))) hb)
  clear hb hh IV HB
  go_wp2_with fail
  refine (alive_any _).mono ?_
  rintro e w6 ⟨rfl, rfl⟩
  go_wp2_with fail
  go_ret
  exact ⟨rfl, HW5.out⟩

end Go.Proofs.Ytbjlkdenkmbepaa
