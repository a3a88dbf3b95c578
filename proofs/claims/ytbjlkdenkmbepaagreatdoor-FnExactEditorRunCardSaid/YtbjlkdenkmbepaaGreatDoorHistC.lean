/- What is proved here: What is proved here: contracts of HistoryValid in the program and in the reference. What is proved here: the copy of a history in the reference. No condition. -/
import Derived.Test.YtbjlkdenkmbepaaGreatDoorHistU
namespace Go.Proofs.YtbjlkdenkmbepaaGreatDoor
open Go.RowKit
set_option linter.unusedVariables false

def HvPost (ms : List Mo) (a : Int) (s : List UInt8) (w : World) (e : Ending) (w' : World) : Prop :=
  ∃ ok : Bool, e = .returned (.bool ok) ∧ (ok = true ↔ ∃ o, HGood ms a s o) ∧ Below w.heap.size w w'
theorem hv_of {ok : Bool} {P Q : Prop} (h : (ok = true ∧ P) ∨ (ok = false ∧ Q)) {R : Prop} (h1 : P → R) (h2 : Q → ¬ R) : ok = true ↔ R := by
  rcases h with ⟨rfl, p⟩ | ⟨rfl, q⟩
  · exact ⟨fun _ => h1 p, fun _ => rfl⟩
  · exact ⟨(fun h => by cases h), fun r => absurd r (h2 q)⟩

set_option maxRecDepth 100000 in
set_option maxHeartbeats 1000000 in
theorem implHistoryValid_any (v : Value) (ms : List Mo) (a : Int) (s : List UInt8) (w : World) (h : RdM w v ms) (hn : ms.length ≤ 1048576) (hs : s.length ≤ maxLen) :
    Calls Tryz.prog 51 #[.agg #[v, .int .i64 a], S s] w (HvPost ms a s w) := by
  obtain ⟨A, c, rfl, _, _⟩ := h.1.form
  have T := Lib.hid (fun (w' : World) (hb : Below w.heap.size w w') => implTexts_any (.slice A ms.length c) ms a s w' (h.up hb) hn hs)
  clear h
  go_enter Tryz.func51, Tryz.ntmps51
  go_wp2_with fail
  refine (T.out _ (by exact bBel)).mono ?_
  rintro e w1 ⟨u, ok, rfl, hb, hh⟩
  have HP := Lib.hid (hv_of hh (fun ⟨o, ho, _⟩ => ⟨o, ho⟩) (fun h => h))
  have hW : Below w.heap.size w w1 := by exact bBel
  clear hb hh T
  go_wp2_with fail
  go_ret
  exact ⟨ok, rfl, HP.out, hW⟩

set_option maxRecDepth 100000 in
set_option maxHeartbeats 1000000 in
theorem specHistoryValid_any (v : Value) (ms : List Mo) (a : Int) (s : List UInt8) (w : World) (h : RdM w v ms) (hn : ms.length ≤ 1048576) (hs : s.length ≤ maxLen) :
    Calls Tryz.prog 78 #[.agg #[v, .int .i64 a], S s] w (HvPost ms a s w) := by
  have hW := Below.refl w.heap.size w
  obtain ⟨A, c, rfl, _, _⟩ := h.1.form
  have H := Lib.hid h
  have T := Lib.hid (fun w => specTextValid_any s w hs)
  have I1 := Lib.hid (fun w => l1In_any (ms.length : Int) 1 30 w)
  rcases ht : tv s with _ | _
  · have HN := Lib.hid (show ¬ ∃ o, HGood ms a s o from fun ⟨o, ho⟩ => by have := ho.t; rw [ht] at this; cases this)
    rw [ht] at T
    clear ht I1 h H
    go_enter Tryz.func78, Tryz.ntmps78
    go_wp2_with fail
    refine (T.out _).mono ?_
    rintro e w1 ⟨rfl, rfl⟩
    go_wp2_with fail
    go_ret
    exact ⟨false, rfl, ⟨(fun h => by cases h), fun h => absurd h HN.out⟩, by exact bBel⟩
  rcases h1 : inB (ms.length : Int) 1 30 with _ | _
  · have HN := Lib.hid (show ¬ ∃ o, HGood ms a s o from fun ⟨o, ho⟩ => by
      have i1 := ho.n1
      have i2 := ho.n30
      rw [inB_iff.2 (by omega)] at h1; cases h1)
    rw [ht] at T
    rw [h1] at I1
    clear ht h1 h H
    go_enter Tryz.func78, Tryz.ntmps78
    go_wp2_with fail
    refine (T.out _).mono ?_
    rintro e w1 ⟨rfl, rfl⟩
    go_wp2_with fail
    refine (I1.out _).mono ?_
    rintro e w1 ⟨rfl, rfl⟩
    go_wp2_with fail
    go_ret
    exact ⟨false, rfl, ⟨(fun h => by cases h), fun h => absurd h HN.out⟩, by exact bBel⟩
  have h1' := inB_iff.1 h1
  have HTV := Lib.hid ht
  rw [ht] at T
  rw [h1] at I1
  clear ht h1 h
  generalize hm : ms.getD 0 m0 = m at *
  have HM := Lib.hid hm
  clear hm
  obtain ⟨p, ⟨fa, fc, fp⟩, ⟨ba, bc, bp⟩⟩ := m
  have HNE : Hid (∀ o, HGood ms a s o → p = -1 ∧ fa = 0 ∧ fc = 0 ∧ fp = [] ∧ ba = 0 ∧ bc = 0 ∧ bp = []) := Lib.hid (fun o ho => by
    have e := ho.m.symm.trans HM.out
    simp only [m0, c0, Mo.mk.injEq, Ch.mk.injEq] at e
    exact ⟨e.1.symm, e.2.1.1.symm, e.2.1.2.1.symm, e.2.1.2.2.symm, e.2.2.1.symm, e.2.2.2.1.symm, e.2.2.2.2.symm⟩)
  go_enter Tryz.func78, Tryz.ntmps78
  go_wp2_with fail
  refine (T.out _).mono ?_
  rintro e w1 ⟨rfl, rfl⟩
  go_wp2_with fail
  refine (I1.out _).mono ?_
  rintro e w1 ⟨rfl, rfl⟩
  have HH := Lib.hid (RdM.up H.out (show Below w.heap.size w (w.alloc (.cells #[.slice A ms.length c, .int .i64 a] 25)) by exact bBel))
  obtain ⟨b, o, rfl, hb, q0, q1, q2, q3, q4, q5, q6⟩ := HH.out.cells (k := 0) (by omega) HM.out
  simp only [Nat.zero_mul, Nat.add_zero] at q0 q1 q2 q3 q4 q5 q6
  clear T I1 H
  go_upto_region 3 with (fail)
  · have hM0 : ms.getD 0 m0 = m0 := by rw [HM.out]; simp only [*]; rfl
    have L := Lib.hid (l9Texts_any _ ms a s _ HH.out HTV.out (by omega) (by omega) hM0)
    clear HNE HM hM0 q0 q1 q2 q3 q4 q5 q6
    go_wp2_with fail
    refine L.out.mono ?_
    rintro e w2 ⟨u, ok, rfl, hb2, hh⟩
    have HP := Lib.hid (hv_of hh (fun ⟨o, ho, _⟩ => ⟨o, ho⟩) (fun h => h))
    have hW2 : Below w.heap.size w w2 := by exact bBel
    clear hb2 hh L
    go_wp2_with fail
    go_ret
    exact ⟨ok, rfl, HP.out, hW2⟩
  all_goals
    go_wp2_with fail
    go_ret
    refine ⟨false, rfl, ⟨(fun h => by cases h), fun ⟨o, ho⟩ => ?_⟩, by exact bBel⟩
    obtain ⟨e1, e2, e3, e4, e5, e6, e7⟩ := HNE.out o ho
    first | omega | contradiction

end Go.Proofs.YtbjlkdenkmbepaaGreatDoor

namespace Go.Proofs.YtbjlkdenkmbepaaGreatDoor
open Go.RowKit
set_option linter.unusedVariables false

theorem own_emptyM (w : World) (B : Nat) (hB : B ≤ w.heap.size) : Own (w.alloc (.cells #[] 96)) B 96 7 (.slice (some ⟨w.heap.size, 0, none⟩) 0 0) 0 [] :=
  World.ownsRow_lit (base := B) (e := 96) (size := 7) w #[] 0 hB (Nat.zero_le _) rfl

set_option maxRecDepth 100000 in
set_option maxHeartbeats 2000000 in
theorem l9Copy_any (v : Value) (ms : List Mo) (a : Int) (w : World) (h : RdM w v ms) (hn : ms.length ≤ 1048576) :
    Calls Tryz.prog 104 #[.agg #[v, .int .i64 a]] w (CopyPost ms a w) := by
  obtain ⟨A, c, rfl, _, _⟩ := h.1.form
  obtain ⟨i0, hi, hz0, hz1, hz2⟩ := info_parts mo_info
  have H2 := Lib.hid (fun (w' : World) (hb : Below w.heap.size w w') => (h.up hb).1)
  clear h
  go_enter Tryz.func104, Tryz.ntmps104
  go_wp2_with fail
  go_region_law (refine step_append_any _ rfl (.tmp 3) (.tmp 5) 23 rfl (w.heap.size + 2) 96 i0 _ 7 72 Tryz.underlying23 hi hz0 hz1 hz2 rfl (by decide) (.slice (some ⟨w.heap.size + 2, 0, none⟩) 0 0) 0 [] (by simp [Act.eval]) (own_up (by have := own_emptyM ((w.alloc (.cells #[.slice A ms.length c, .int .i64 a] 25)).alloc (.cells #[.slice none 0 0, .int .i64 0] 25)) (w.heap.size + 2) (by simp); simpa using this) (Below.drew (Below.refl _ _))) (.slice A ms.length c) ms.length _ (by simp [Act.eval]) (H2.out _ (by exact bBel)) (mo_oneCell ms) (by unfold maxLen; omega) (by omega) (by simp) ?_; intro v1 w1 how hgr; have hgr2 : World.grownBy _ w1 (some (w.heap.size + 2)) := hgr; have xc := gup_c (x := w.heap.size) (A := #[.slice A ms.length c, .int .i64 a]) hgr2 (by simp; omega) (by omega) (fun o => by simp [go_sem]); have yc := gup_c (x := w.heap.size + 1) (A := #[.slice none 0 0, .int .i64 0]) hgr2 (by simp) (by omega) (fun o => by simp [go_sem]); have yf := gup_f (x := w.heap.size + 1) hgr2 (by simp) (by omega) (fun o => by simp [go_sem]); have hW := Lib.hid (show Below w.heap.size w w1 from up_grown (by exact bBel) hgr2 (by intro k hk; injection hk; omega)); have HO := Lib.hid how; obtain ⟨A1, c1, rfl, -, -⟩ := (RdL.of_own (f := moC) (bs := ms) (by simpa using how)).form; clear hgr hgr2 how)
  all_goals
    go_wp2_with fail
    refine bodyPost_ret (v := .agg #[.slice A1 ms.length c1, .int .i64 a]) (by simp [results, Tryz.results104, go_sem, yc]) rfl ⟨_, rfl, ?_, by have hQ := hW.out; exact bBel⟩
    have h1 := HO.out
    rw [Nat.zero_add, List.nil_append] at h1
    exact own_base (own_set (own_set h1 _ _ (by simp)) _ _ (by simp)) (by omega)

end Go.Proofs.YtbjlkdenkmbepaaGreatDoor
