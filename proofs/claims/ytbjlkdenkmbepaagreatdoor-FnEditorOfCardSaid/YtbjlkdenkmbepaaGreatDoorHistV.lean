/- What is proved here: contracts of HistoryValid in the program and in the reference. No condition. -/
import Derived.Test.YtbjlkdenkmbepaaGreatDoorHistU
namespace Go.Proofs.YtbjlkdenkmbepaaGreatDoor
open Go.RowKit
set_option linter.unusedVariables false

def HvPost (ms : List Mo) (a : Int) (s : List UInt8) (w : World) (e : Ending) (w' : World) : Prop :=
  ∃ ok : Bool, e = .returned (.bool ok) ∧ (ok = true ↔ ∃ o, HGood ms a s o) ∧ Below w.heap.size w w'
theorem hv_of {ok : Bool} {P Q : Prop} (h : (ok = true ∧ P) ∨ (ok = false ∧ Q)) {R : Prop} (h1 : P → R) (h2 : Q → ¬ R) : ok = true ↔ R := by
  rcases h with ⟨rfl, p⟩ | ⟨rfl, q⟩
  · exact ⟨fun _ => h1 p, fun _ => rfl⟩
  · exact ⟨(fun h => by cases h), fun r => absurd r (h2 q)⟩

set_option maxRecDepth 100000 in
set_option maxHeartbeats 1000000 in
theorem implHistoryValid_any (v : Value) (ms : List Mo) (a : Int) (s : List UInt8) (w : World) (h : RdM w v ms) (hn : ms.length ≤ 1048576) (hs : s.length ≤ maxLen) :
    Calls Tryz.prog 51 #[.agg #[v, .int .i64 a], S s] w (HvPost ms a s w) := by
  obtain ⟨A, c, rfl, _, _⟩ := h.1.form
  have T := Lib.hid (fun (w' : World) (hb : Below w.heap.size w w') => implTexts_any (.slice A ms.length c) ms a s w' (h.up hb) hn hs)
  clear h
  go_enter Tryz.func51, Tryz.ntmps51
  go_wp2_with fail
  refine (T.out _ (by (repeat (first | exact Below.refl _ _ | assumption | refine Below.drew ?_ | refine up_drewN ?_ _ | refine up_alloc ?_ _ | refine up_set ?_ _ _ (by first | exact Nat.le_refl _ | (simp; done) | (simp; omega) | omega) | refine up_trans ?_ (by assumption))))).mono ?_
  rintro e w1 ⟨u, ok, rfl, hb, hh⟩
  have HP := Lib.hid (hv_of hh (fun ⟨o, ho, _⟩ => ⟨o, ho⟩) (fun h => h))
  have hW : Below w.heap.size w w1 := by (repeat (first | exact Below.refl _ _ | assumption | refine Below.drew ?_ | refine up_drewN ?_ _ | refine up_alloc ?_ _ | refine up_set ?_ _ _ (by first | exact Nat.le_refl _ | (simp; done) | (simp; omega) | omega) | refine up_trans ?_ (by assumption)))
  clear hb hh T
  go_wp2_with fail
  go_ret
  exact ⟨ok, rfl, HP.out, hW⟩

set_option maxRecDepth 100000 in
set_option maxHeartbeats 1000000 in
theorem specHistoryValid_any (v : Value) (ms : List Mo) (a : Int) (s : List UInt8) (w : World) (h : RdM w v ms) (hn : ms.length ≤ 1048576) (hs : s.length ≤ maxLen) :
    Calls Tryz.prog 78 #[.agg #[v, .int .i64 a], S s] w (HvPost ms a s w) := by
  have hW := Below.refl w.heap.size w
  obtain ⟨A, c, rfl, _, _⟩ := h.1.form
  have H := Lib.hid h
  have T := Lib.hid (fun w => specTextValid_any s w hs)
  have I1 := Lib.hid (fun w => l1In_any (ms.length : Int) 1 30 w)
  rcases ht : tv s with _ | _
  · have HN := Lib.hid (show ¬ ∃ o, HGood ms a s o from fun ⟨o, ho⟩ => by have := ho.t; rw [ht] at this; cases this)
    rw [ht] at T
    clear ht I1 h H
    go_enter Tryz.func78, Tryz.ntmps78
    go_wp2_with fail
    refine (T.out _).mono ?_
    rintro e w1 ⟨rfl, rfl⟩
    go_wp2_with fail
    go_ret
    exact ⟨false, rfl, ⟨(fun h => by cases h), fun h => absurd h HN.out⟩, by (repeat (first | exact Below.refl _ _ | assumption | refine Below.drew ?_ | refine up_drewN ?_ _ | refine up_alloc ?_ _ | refine up_set ?_ _ _ (by first | exact Nat.le_refl _ | (simp; done) | (simp; omega) | omega) | refine up_trans ?_ (by assumption)))⟩
  rcases h1 : inB (ms.length : Int) 1 30 with _ | _
  · have HN := Lib.hid (show ¬ ∃ o, HGood ms a s o from fun ⟨o, ho⟩ => by
      have i1 := ho.n1
      have i2 := ho.n30
      rw [inB_iff.2 (by omega)] at h1; cases h1)
    rw [ht] at T
    rw [h1] at I1
    clear ht h1 h H
    go_enter Tryz.func78, Tryz.ntmps78
    go_wp2_with fail
    refine (T.out _).mono ?_
    rintro e w1 ⟨rfl, rfl⟩
    go_wp2_with fail
    refine (I1.out _).mono ?_
    rintro e w1 ⟨rfl, rfl⟩
    go_wp2_with fail
    go_ret
    exact ⟨false, rfl, ⟨(fun h => by cases h), fun h => absurd h HN.out⟩, by (repeat (first | exact Below.refl _ _ | assumption | refine Below.drew ?_ | refine up_drewN ?_ _ | refine up_alloc ?_ _ | refine up_set ?_ _ _ (by first | exact Nat.le_refl _ | (simp; done) | (simp; omega) | omega) | refine up_trans ?_ (by assumption)))⟩
  have h1' := inB_iff.1 h1
  have HTV := Lib.hid ht
  rw [ht] at T
  rw [h1] at I1
  clear ht h1 h
  generalize hm : ms.getD 0 m0 = m at *
  have HM := Lib.hid hm
  clear hm
  obtain ⟨p, ⟨fa, fc, fp⟩, ⟨ba, bc, bp⟩⟩ := m
  have HNE : Hid (∀ o, HGood ms a s o → p = -1 ∧ fa = 0 ∧ fc = 0 ∧ fp = [] ∧ ba = 0 ∧ bc = 0 ∧ bp = []) := Lib.hid (fun o ho => by
    have e := ho.m.symm.trans HM.out
    simp only [m0, c0, Mo.mk.injEq, Ch.mk.injEq] at e
    exact ⟨e.1.symm, e.2.1.1.symm, e.2.1.2.1.symm, e.2.1.2.2.symm, e.2.2.1.symm, e.2.2.2.1.symm, e.2.2.2.2.symm⟩)
  go_enter Tryz.func78, Tryz.ntmps78
  go_wp2_with fail
  refine (T.out _).mono ?_
  rintro e w1 ⟨rfl, rfl⟩
  go_wp2_with fail
  refine (I1.out _).mono ?_
  rintro e w1 ⟨rfl, rfl⟩
  have HH := Lib.hid (RdM.up H.out (show Below w.heap.size w (w.alloc (.cells #[.slice A ms.length c, .int .i64 a] 25)) by (repeat (first | exact Below.refl _ _ | assumption | refine Below.drew ?_ | refine up_drewN ?_ _ | refine up_alloc ?_ _ | refine up_set ?_ _ _ (by first | exact Nat.le_refl _ | (simp; done) | (simp; omega) | omega) | refine up_trans ?_ (by assumption)))))
  obtain ⟨b, o, rfl, hb, q0, q1, q2, q3, q4, q5, q6⟩ := HH.out.cells (k := 0) (by omega) HM.out
  simp only [Nat.zero_mul, Nat.add_zero] at q0 q1 q2 q3 q4 q5 q6
  clear T I1 H
  go_upto_region 3 with (fail)
  · have hM0 : ms.getD 0 m0 = m0 := by rw [HM.out]; simp only [*]; rfl
    have L := Lib.hid (l9Texts_any _ ms a s _ HH.out HTV.out (by omega) (by omega) hM0)
    clear HNE HM hM0 q0 q1 q2 q3 q4 q5 q6
    go_wp2_with fail
    refine L.out.mono ?_
    rintro e w2 ⟨u, ok, rfl, hb2, hh⟩
    have HP := Lib.hid (hv_of hh (fun ⟨o, ho, _⟩ => ⟨o, ho⟩) (fun h => h))
    have hW2 : Below w.heap.size w w2 := by (repeat (first | exact Below.refl _ _ | assumption | refine Below.drew ?_ | refine up_drewN ?_ _ | refine up_alloc ?_ _ | refine up_set ?_ _ _ (by first | exact Nat.le_refl _ | (simp; done) | (simp; omega) | omega) | refine up_trans ?_ (by assumption)))
    clear hb2 hh L
    go_wp2_with fail
    go_ret
    exact ⟨ok, rfl, HP.out, hW2⟩
  all_goals
    go_wp2_with fail
    go_ret
    refine ⟨false, rfl, ⟨(fun h => by cases h), fun ⟨o, ho⟩ => ?_⟩, by (repeat (first | exact Below.refl _ _ | assumption | refine Below.drew ?_ | refine up_drewN ?_ _ | refine up_alloc ?_ _ | refine up_set ?_ _ _ (by first | exact Nat.le_refl _ | (simp; done) | (simp; omega) | omega) | refine up_trans ?_ (by assumption)))⟩
    obtain ⟨e1, e2, e3, e4, e5, e6, e7⟩ := HNE.out o ho
    first | omega | contradiction

end Go.Proofs.YtbjlkdenkmbepaaGreatDoor
