/- What is proved here: contracts of the program's undo and redo. No condition. -/
import Derived.Test.YtbjlkdenkmbepaaGreatDoorDo1
import Derived.Test.YtbjlkdenkmbepaaGreatDoorHistF
import Derived.BigRegion
namespace Go.Proofs.YtbjlkdenkmbepaaGreatDoor
open Go.RowKit
set_option linter.unusedVariables false

theorem EdBox.up {w w' : World} {b : Nat} {s : List UInt8} {x : Int} {cl : List UInt8} {ms : List Mo} {pa : Int} (h : EdBox w b s x cl ms pa) (hb : Below w.heap.size w w') : EdBox w' b s x cl ms pa := by
  obtain ⟨v, hI, hv, hn, hz⟩ := h
  exact ⟨v, hI.up hz hb, hv.up hb, hn, Nat.lt_of_lt_of_le hz hb.size⟩
/-- what travel leaves. -/
def TrPost (b : Nat) (s : List UInt8) (x : Int) (cl : List UInt8) (ms : List Mo) (pa : Int) (t2 : List UInt8) (ms2 : List Mo) (a2 : Int) (ok : Bool) (w : World) (e : Ending) (w' : World) : Prop :=
  e = .returned (.bool ok) ∧ w.grownBy w' (some b) ∧ (ok = true → EdBox w' b t2 (min x t2.length) cl ms2 a2) ∧ (ok = false → EdBox w' b s x cl ms pa)
theorem travel_any (b : Nat) (s : List UInt8) (x : Int) (cl : List UInt8) (ms : List Mo) (pa : Int) (v2 : Value) (ms2 : List Mo) (a2 : Int) (t2 : List UInt8) (ok : Bool) (w : World)
    (h : EdBox w b s x cl ms pa) (h2 : RdM w v2 ms2) (hne : v2.ownBlock ≠ some b) :
    Calls Tryz.prog 112 #[.pointer (some ⟨b, 0, none⟩), .agg #[v2, .int .i64 a2], S t2, .bool ok] w (TrPost b s x cl ms pa t2 ms2 a2 ok w) := by
  rcases ok with _ | _
  · exact (travel_no b v2 a2 t2 w).mono fun e w' ⟨he, hb⟩ => ⟨he, gb_of_up hb _, (fun h => by cases h), fun _ => h.up hb⟩
  · exact (travel_yes b s x cl ms pa v2 ms2 a2 t2 w h h2 hne).mono fun e w' ⟨he, hb, hE⟩ => ⟨he, hb, (fun _ => hE), fun h => by cases h⟩

set_option maxRecDepth 100000 in
set_option maxHeartbeats 1000000 in
theorem do_undo (b : Nat) (s : List UInt8) (x : Int) (cl : List UInt8) (ms : List Mo) (k : Nat) (o : List (List UInt8)) (w : World) (h : EdBox w b s x cl ms k) (hg : HGood ms k s o) :
    Calls Tryz.prog 65 #[.pointer (some ⟨b, 0, none⟩), .string ⟨#[117, 110, 100, 111]⟩] w (TrPost b s x cl ms k (toText ms.length o s (ms.getD k m0).par) ms (toAt ms.length k (ms.getD k m0).par) (inB (ms.getD k m0).par 0 ((ms.length : Int) - 1)) w) := by
  have hE := h
  obtain ⟨v, hI, hv, hvb, hbz⟩ := h
  obtain ⟨B, d, rfl, _, _⟩ := hv.1.form
  have HB := Lib.hid (fun (w' : World) (hb : Below w.heap.size w w') => implHistoryBack_yes (.slice B ms.length d) ms k s w' o (hv.up hb) hg)
  generalize toText ms.length o s (ms.getD k m0).par = t2 at *
  generalize toAt ms.length (k : Int) (ms.getD k m0).par = a2 at *
  generalize inB (ms.getD k m0).par 0 ((ms.length : Int) - 1) = ok at *
  unfold HRes at HB
  have hP := hv.2
  have HE := Lib.hid (And.intro hE hP)
  have HZ := Lib.hid hbz
  have xc := hI.1
  have xf := hI.2
  clear hv hvb hI hg hE hP
  go_enter Tryz.func65, Tryz.ntmps65
  go_upto_region 20 with (fail)
  go_region_with (first
    | (go_at_call 113; refine (HB.out _ (by (repeat (first | exact Below.refl _ _ | assumption | refine Below.drew ?_ | refine up_drewN ?_ _ | refine up_alloc ?_ _ | refine up_set ?_ _ _ (by first | exact Nat.le_refl _ | (simp; done) | (simp; omega) | omega) | refine up_trans ?_ (by assumption))))).mono ?_; rintro e w2 ⟨v2, rfl, ho2, hb2⟩; obtain ⟨A2, c2, rfl, -, -⟩ := (RdL.of_own (f := moC) (bs := ms) ho2).form; go_must (have HO2 := Lib.hid ho2; have HB2 := Lib.hid hb2; clear ho2 hb2))
    | (go_at_call 112; refine (travel_any b s x cl ms k _ ms a2 t2 ok w2 (HE.out.1.up (show Below w.heap.size w w2 from ⟨HB2.out.os, HB2.out.tape, HB2.out.output, HB2.out.size, HB2.out.block⟩)) ⟨RdL.of_own HO2.out, HE.out.2⟩ (by intro e; have := HZ.out; have := (HO2.out.lt b e).1; simp at this; omega)).mono ?_; rintro e w3 ⟨rfl, hgr, h1, h2⟩))
  all_goals
    have hG := gb_trans (gb_of_up (show Below w.heap.size w w2 from ⟨HB2.out.os, HB2.out.tape, HB2.out.output, HB2.out.size, HB2.out.block⟩) (some b)) hgr
    have HQ := Lib.hid (And.intro hG (And.intro h1 h2))
    clear hG h1 h2 hgr HB2 HO2 HB xc xf
    go_wp2_with fail
    go_ret
    exact ⟨rfl, HQ.out⟩

set_option maxRecDepth 100000 in
set_option maxHeartbeats 1000000 in
theorem do_redo (b : Nat) (s : List UInt8) (x : Int) (cl : List UInt8) (ms : List Mo) (k : Nat) (o : List (List UInt8)) (w : World) (h : EdBox w b s x cl ms k) (hg : HGood ms k s o) :
    Calls Tryz.prog 65 #[.pointer (some ⟨b, 0, none⟩), .string ⟨#[114, 101, 100, 111]⟩] w (TrPost b s x cl ms k (toText ms.length o s (foTo ms k ms.length)) ms (toAt ms.length k (foTo ms k ms.length)) (inB (foTo ms k ms.length) 0 ((ms.length : Int) - 1)) w) := by
  have hE := h
  obtain ⟨v, hI, hv, hvb, hbz⟩ := h
  obtain ⟨B, d, rfl, _, _⟩ := hv.1.form
  have HB := Lib.hid (fun (w' : World) (hb : Below w.heap.size w w') => implHistoryForth_yes (.slice B ms.length d) ms k s w' o (hv.up hb) hg)
  generalize toText ms.length o s (foTo ms k ms.length) = t2 at *
  generalize toAt ms.length (k : Int) (foTo ms k ms.length) = a2 at *
  generalize inB (foTo ms k ms.length) 0 ((ms.length : Int) - 1) = ok at *
  unfold HRes at HB
  have hP := hv.2
  have HE := Lib.hid (And.intro hE hP)
  have HZ := Lib.hid hbz
  have xc := hI.1
  have xf := hI.2
  clear hv hvb hI hg hE hP
  go_enter Tryz.func65, Tryz.ntmps65
  go_upto_region 22 with (fail)
  go_region_with (first
    | (go_at_call 114; refine (HB.out _ (by (repeat (first | exact Below.refl _ _ | assumption | refine Below.drew ?_ | refine up_drewN ?_ _ | refine up_alloc ?_ _ | refine up_set ?_ _ _ (by first | exact Nat.le_refl _ | (simp; done) | (simp; omega) | omega) | refine up_trans ?_ (by assumption))))).mono ?_; rintro e w2 ⟨v2, rfl, ho2, hb2⟩; obtain ⟨A2, c2, rfl, -, -⟩ := (RdL.of_own (f := moC) (bs := ms) ho2).form; go_must (have HO2 := Lib.hid ho2; have HB2 := Lib.hid hb2; clear ho2 hb2))
    | (go_at_call 112; refine (travel_any b s x cl ms k _ ms a2 t2 ok w2 (HE.out.1.up (show Below w.heap.size w w2 from ⟨HB2.out.os, HB2.out.tape, HB2.out.output, HB2.out.size, HB2.out.block⟩)) ⟨RdL.of_own HO2.out, HE.out.2⟩ (by intro e; have := HZ.out; have := (HO2.out.lt b e).1; simp at this; omega)).mono ?_; rintro e w3 ⟨rfl, hgr, h1, h2⟩))
  all_goals
    have hG := gb_trans (gb_of_up (show Below w.heap.size w w2 from ⟨HB2.out.os, HB2.out.tape, HB2.out.output, HB2.out.size, HB2.out.block⟩) (some b)) hgr
    have HQ := Lib.hid (And.intro hG (And.intro h1 h2))
    clear hG h1 h2 hgr HB2 HO2 HB xc xf
    go_wp2_with fail
    go_ret
    exact ⟨rfl, HQ.out⟩

end Go.Proofs.YtbjlkdenkmbepaaGreatDoor
