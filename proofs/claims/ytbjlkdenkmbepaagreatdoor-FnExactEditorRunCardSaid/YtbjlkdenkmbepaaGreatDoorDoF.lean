/- What is proved here: What is proved here: EditorDo of the program and of the reference at editors that are not valid. What is proved here: the contract of sameEditor on equal editors. What is proved here: the reference's drawing of an editor and one action. What is proved here: EditorDo of the program and of the reference give the same at every drawn editor. Condition: what the library's variables hold. No condition. -/
import Derived.Test.YtbjlkdenkmbepaaGreatDoorDo4
import Derived.Test.YtbjlkdenkmbepaaGreatDoorSp2
import Derived.Test.YtbjlkdenkmbepaaGreatDoorEd0
import Derived.Test.YtbjlkdenkmbepaaGreatDoorHNx
import Derived.Test.YtbjlkdenkmbepaaGreatDoorSp4
import Derived.Test.YtbjlkdenkmbepaaGreatDoorDo8
import Derived.Test.YtbjlkdenkmbepaaGreatDoorLin2
namespace Go.Proofs.YtbjlkdenkmbepaaGreatDoor
open Go.RowKit
set_option linter.unusedVariables false

set_option maxRecDepth 100000 in
set_option maxHeartbeats 1000000 in
theorem implEditorDo_no (act : Value) (v : Value) (e : Es) (w : World) (h : RdM w v e.ms) (hn : e.ms.length ≤ 1048576) (hs : e.s.length ≤ maxLen) (hc : e.cl.length ≤ maxLen) (hg : ¬ EdOk e.ms e.pa e.s e.x e.cl) :
    Calls Tryz.prog 21 #[edV e v, act] w (EdGot ⟨[], 0, [], [], 0⟩ false w) := by
  obtain ⟨s, x, cl, ms, pa⟩ := e
  simp only at *
  obtain ⟨A, c, rfl, _, _⟩ := h.1.form
  have T := Lib.hid (fun (w' : World) (hb : Below w.heap.size w w') => implEditorValid_any (.slice A ms.length c) ms pa s x cl w' (h.up hb) hn hs hc)
  have HP := Lib.hid hg
  clear h hg
  unfold EdGot EdDone edV
  unfold edAgg at T ⊢
  go_enter Tryz.func21, Tryz.ntmps21
  go_wp2_with fail
  refine (T.out _ (by exact bBel)).mono ?_
  rintro e w1 ⟨ok, rfl, hh, hb⟩
  obtain rfl : ok = false := by
    rcases ok with _ | _
    · rfl
    · exact absurd (hh.1 rfl) HP.out
  have yc : ∀ o, w1.cell? ⟨w.heap.size + 1, o, none⟩ = #[S [], .int .i64 0, S [], .slice none 0 0, .int .i64 0][o]? := (fun o => (hb.cell (p := ⟨w.heap.size + 1, o, none⟩) (by simp <;> omega)).trans (by simp [go_sem])); have yf : ∀ o, w1.frozen? ⟨w.heap.size + 1, o, none⟩ = false := (fun o => (hb.frozen (p := ⟨w.heap.size + 1, o, none⟩) (by simp <;> omega)).trans (by simp [go_sem])); have yz : w.heap.size + 1 < w1.heap.size := (by have := hb.size; (try simp at this); omega); have yy := yz
  have hW : Below w.heap.size w w1 := by exact bBel
  clear hb hh T HP
  go_wp2_with fail
  refine bodyPost_ret (v := .tuple #[.agg #[S [], .int .i64 0, S [], .slice none 0 0, .int .i64 0], .bool false]) (by simp [results, Tryz.results21, go_sem, yc]) rfl ⟨.slice none 0 0, rfl, World.ownsRow_nil _ _ _ _, ?_⟩
  have hQ := hW
  (repeat refine up_set ?_ _ _ (by first | exact Nat.le_refl _ | (simp; done) | (simp; omega) | omega))
  exact hQ
set_option maxRecDepth 100000 in
set_option maxHeartbeats 1000000 in
theorem specEditorDo_no (a : List UInt8) (v : Value) (e : Es) (w : World) (h : RdM w v e.ms) (hn : e.ms.length ≤ 1048576) (hs : e.s.length ≤ maxLen) (hc : e.cl.length ≤ maxLen) (hg : ¬ EdOk e.ms e.pa e.s e.x e.cl) :
    Calls Tryz.prog 19 #[edW e v, S a] w (fun en w' => en = .returned (.tuple #[edW ⟨[], 0, [], [], 0⟩ (.slice none 0 0), .bool false]) ∧ Below w.heap.size w w') := by
  have OW := Lib.hid (fun (w' : World) (hb : Below w.heap.size w w') => l1OwnEditor_any v e.ms e.pa e.s e.x e.cl w' (h.up hb) hn)
  have EV := Lib.hid (fun (u : Value) (w' : World) (h' : RdM w' u e.ms) => (specEditorValid_any u e.ms e.pa e.s e.x e.cl w' h' hn hs hc).mono fun en w2 ⟨ok, h1, h2, h3⟩ => (show en = Ending.returned (.bool false) ∧ Below w'.heap.size w' w2 from ⟨by
    rcases ok with _ | _
    · exact h1
    · exact absurd (h2.1 rfl) hg, h3⟩))
  have HP := Lib.hid h.2
  unfold EdOwn at OW
  obtain ⟨s, x, cl, ms, pa⟩ := e
  simp only at *
  obtain ⟨A, k, rfl, _, _⟩ := h.1.form
  unfold edW
  unfold edAgg at OW EV ⊢
  clear h hg
  go_enter Tryz.func19, Tryz.ntmps19
  go_wp2_with fail
  refine (OW.out _ (by exact bBel)).mono ?_
  rintro en w1 ⟨u, rfl, ho, hb⟩
  have xc : ∀ o, w1.cell? ⟨w.heap.size, o, none⟩ = #[S s, .int .i64 x, S cl, .slice A ms.length k, .int .i64 pa][o]? := (fun o => (hb.cell (p := ⟨w.heap.size, o, none⟩) (by simp <;> omega)).trans (by simp [go_sem])); have xf : ∀ o, w1.frozen? ⟨w.heap.size, o, none⟩ = false := (fun o => (hb.frozen (p := ⟨w.heap.size, o, none⟩) (by simp <;> omega)).trans (by simp [go_sem])); have xz : w.heap.size < w1.heap.size := (by have := hb.size; (try simp at this); omega); have xy := xz
  have zc : ∀ o, w1.cell? ⟨w.heap.size + 1, o, none⟩ = #[S [], .int .i64 0, S [], .slice none 0 0, .int .i64 0][o]? := (fun o => (hb.cell (p := ⟨w.heap.size + 1, o, none⟩) (by simp <;> omega)).trans (by simp [go_sem])); have zf : ∀ o, w1.frozen? ⟨w.heap.size + 1, o, none⟩ = false := (fun o => (hb.frozen (p := ⟨w.heap.size + 1, o, none⟩) (by simp <;> omega)).trans (by simp [go_sem])); have zz : w.heap.size + 1 < w1.heap.size := (by have := hb.size; (try simp at this); omega); have zy := zz
  have hW : Below w.heap.size w w1 := by exact bBel
  have HO1 := Lib.hid (own_base ho (show w.heap.size + 2 ≤ _ by simp))
  obtain ⟨UA, UC, rfl, -, -⟩ := (RdL.of_own (f := moC) (bs := ms) ho).form
  have HW := Lib.hid hW
  clear hb ho OW hW xy zy
  go_upto_region 2 with (fail)
  obtain ⟨W2, hw⟩ : ∃ q, q = ((((w1.setCell ⟨w.heap.size, 0, none⟩ (S s)).setCell ⟨w.heap.size, 1, none⟩ (.int .i64 x)).setCell ⟨w.heap.size, 2, none⟩ (S cl)).setCell ⟨w.heap.size, 3, none⟩ (.slice UA ms.length UC)).setCell ⟨w.heap.size, 4, none⟩ (.int .i64 pa) := ⟨_, rfl⟩
  rw [← hw]
  have xI : Is W2 w.heap.size #[S s, .int .i64 x, S cl, .slice UA ms.length UC, .int .i64 pa] := by rw [hw]; exact is_all5 ⟨xc, xf⟩ _ _ _ _ _
  have zI : Is W2 (w.heap.size + 1) #[S [], .int .i64 0, S [], .slice none 0 0, .int .i64 0] := by rw [hw]; exact is_far5 ⟨zc, zf⟩ (by omega) _ _ _ _ _
  have hB2 : Below w.heap.size w1 W2 := by
    rw [hw]
    have hQ := Below.refl w.heap.size w1
    (repeat refine Below.setCell ?_ (by first | exact Nat.le_refl _ | (simp; done) | (simp; omega)) _)
    exact hQ
  have HO2 := Lib.hid (show OwnM W2 (w.heap.size + 2) (.slice UA ms.length UC) ms by rw [hw]; exact own_all5 HO1.out (by omega) _ _ _ _ _)
  have zz2 : w.heap.size + 1 < W2.heap.size := Nat.lt_of_lt_of_le zz hB2.size
  have HW2 := Lib.hid (show Below w.heap.size w W2 from HW.out.trans hB2)
  have xc2 := xI.1
  clear hw hB2 HO1 HW xc xf xz zc zf zz xI
  go_wp2_with fail
  refine (EV.out _ _ ⟨RdL.of_own HO2.out, HP.out⟩).mono ?_
  rintro en w3 ⟨rfl, hb⟩
  replace zI := zI.up zz2 hb
  have HW := Lib.hid (up_trans HW2.out hb)
  have zc := zI.1
  have zf := zI.2
  clear hb EV HO2 HW2 zI xc2 zz2
  go_wp2_with fail
  refine bodyPost_ret (v := .tuple #[.agg #[S [], .int .i64 0, S [], .slice none 0 0, .int .i64 0], .bool false]) (by simp [results, Tryz.results19, go_sem, zc]) rfl ⟨rfl, ?_⟩
  have hQ := HW.out
  (repeat refine up_set ?_ _ _ (by first | exact Nat.le_refl _ | (simp; done) | (simp; omega) | omega))
  exact hQ

end Go.Proofs.YtbjlkdenkmbepaaGreatDoor

namespace Go.Proofs.YtbjlkdenkmbepaaGreatDoor
open Go.RowKit
set_option linter.unusedVariables false

set_option maxRecDepth 100000 in
set_option maxHeartbeats 1000000 in
theorem sameEditor_same (u v : Value) (ms : List Mo) (pa : Int) (s : List UInt8) (x : Int) (cl : List UInt8) (w : World) (hu : RdM w u ms) (hv : RdM w v ms) :
    Calls Tryz.prog 15 #[edAgg s x cl u pa, edAgg s x cl v pa] w fun e w' => e = .returned (.bool true) ∧ Below w.heap.size w w' := by
  obtain ⟨A, c, rfl, _, _⟩ := hu.1.form
  obtain ⟨B, d, rfl, _, _⟩ := hv.1.form
  have X := Lib.hid (fun (w' : World) (hb : Below w.heap.size w w') => sameHistory_same (.slice A ms.length c) (.slice B ms.length d) ms pa w' (hu.up hb) (hv.up hb))
  clear hu hv
  unfold edAgg
  go_enter Tryz.func15, Tryz.ntmps15
  go_wp2_with fail
  refine (X.out _ (by exact bBel)).mono ?_
  rintro e w1 ⟨rfl, hb⟩
  have hW : Below w.heap.size w w1 := by exact bBel
  clear hb
  go_wp2_with fail
  go_ret
  exact ⟨rfl, hW⟩

end Go.Proofs.YtbjlkdenkmbepaaGreatDoor

namespace Go.Proofs.YtbjlkdenkmbepaaGreatDoor
open Go.RowKit
set_option linter.unusedVariables false

def DoFacts (v : Value) (e X : Es) (ok : Bool) (a : List UInt8) : Prop :=
  (∀ w', RdM w' v e.ms → LW w' → Calls Tryz.prog 21 #[edV e v, S a] w' (EdGot X ok w')) ∧
  (∀ w', RdM w' v e.ms → Calls Tryz.prog 19 #[edW e v, S a] w' fun en w2 => ∃ u, en = .returned (.tuple #[edW X u, .bool ok]) ∧ OwnM w2 w'.heap.size u X.ms ∧ Below w'.heap.size w' w2)
/-- what is known of the editor that comes out. -/
def DoOut (e X : Es) (ok : Bool) (a : List UInt8) : Prop :=
  X.ms.length ≤ 30 ∧ (∀ m ∈ X.ms, m.f.p.length ≤ 1048576 ∧ m.b.p.length ≤ 1048576) ∧ (ok = true → ∃ o, EdIn e o ∧ edDo e o (akOf a) = some X) ∧ (ok = false → X = e ∨ X.ms = [])
theorem do_facts0 (e : Es) (a : List UInt8) (hsl : e.s.length ≤ maxLen) (hcl : e.cl.length ≤ maxLen) (hn : e.ms.length ≤ 1048576) (ha : a.length ≤ 1048576) : ∃ X ok, (∀ v, DoFacts v e X ok a) ∧ DoOut e X ok a := by
  by_cases hok : EdOk e.ms e.pa e.s e.x e.cl
  · obtain ⟨o, hin⟩ := edIn_of (e := e) hok
    refine ⟨(edDo e o (akOf a)).getD e, (edDo e o (akOf a)).isSome, fun v => ⟨fun w' h hL => implEditorDo_any v e o a w' h hin ha hL, fun w' h => specEditorDo_any v e o a w' h hin ha⟩, ?_⟩
    have hw0 := EVal.weak ⟨o, hin⟩
    cases hr : edDo e o (akOf a) with
    | none => exact ⟨hw0.2.2.1, hw0.2.2.2, fun h => (by cases h), fun _ => .inl rfl⟩
    | some e2 =>
      obtain ⟨o2, h2, _⟩ := edDo_next hin hr
      have hw := EVal.weak ⟨o2, h2⟩
      exact ⟨hw.2.2.1, hw.2.2.2, fun _ => ⟨o, hin, hr⟩, fun h => by cases h⟩
  · refine ⟨⟨[], 0, [], [], 0⟩, false, fun v => ⟨fun w' h _ => implEditorDo_no (S a) v e w' h hn hsl hcl hok, fun w' h => (specEditorDo_no a v e w' h hn hsl hcl hok).mono ?_⟩, ?_⟩
    · rintro en w2 ⟨rfl, hb⟩
      exact ⟨.slice none 0 0, rfl, World.ownsRow_nil _ _ _ _, hb⟩
    · exact ⟨by simp, fun m hm => (by cases hm), fun h => (by cases h), fun _ => .inr rfl⟩
end Go.Proofs.YtbjlkdenkmbepaaGreatDoor
