/- What is proved here: What is proved here: contracts of the program's clone of an editor and of travel. What is proved here: contracts of the program's travel. What is proved here: contracts of the program's undo and redo. What is proved here: the program's EditorDo out of what do does. No condition. -/
import Derived.Test.YtbjlkdenkmbepaaGreatDoorEd0
import Derived.Test.YtbjlkdenkmbepaaGreatDoorEverL
import Derived.BigRegion
import Derived.Test.YtbjlkdenkmbepaaGreatDoorHistF
namespace Go.Proofs.YtbjlkdenkmbepaaGreatDoor
open Go.RowKit
set_option linter.unusedVariables false

/-- box b holds an editor. -/
def EdBox (w : World) (b : Nat) (s : List UInt8) (x : Int) (cl : List UInt8) (ms : List Mo) (pa : Int) : Prop :=
  ∃ v, Is w b #[S s, .int .i64 x, S cl, v, .int .i64 pa] ∧ RdM w v ms ∧ v.ownBlock ≠ some b ∧ b < w.heap.size
/-- an editor that was made anew. -/
def EdNew (s : List UInt8) (x : Int) (cl : List UInt8) (ms : List Mo) (pa : Int) (w : World) (e : Ending) (w' : World) : Prop :=
  ∃ u, e = .returned (edAgg s x cl u pa) ∧ OwnM w' w.heap.size u ms ∧ Below w.heap.size w w'

set_option maxRecDepth 100000 in
set_option maxHeartbeats 1000000 in
theorem edClone_any (v : Value) (ms : List Mo) (pa : Int) (s : List UInt8) (x : Int) (cl : List UInt8) (w : World) (h : RdM w v ms) (hn : ms.length ≤ 1048576) :
    Calls Tryz.prog 47 #[edAgg s x cl v pa] w (EdNew s x cl ms pa w) := by
  obtain ⟨A, c, rfl, _, _⟩ := h.1.form
  have C := Lib.hid (fun (w' : World) (hb : Below w.heap.size w w') => clone_any (.slice A ms.length c) ms pa w' (h.up hb) hn)
  unfold CopyPost at C
  unfold EdNew edAgg
  go_enter Tryz.func47, Tryz.ntmps47
  go_wp2_with fail
  refine (C.out _ (by exact bBel)).mono ?_
  rintro e w1 ⟨v2, rfl, ho, hb⟩
  have yc : ∀ o, w1.cell? ⟨w.heap.size, o, none⟩ = #[S s, .int .i64 x, S cl, .slice A ms.length c, .int .i64 pa][o]? := (fun o => (hb.cell (p := ⟨w.heap.size, o, none⟩) (by simp <;> omega)).trans (by simp [go_sem])); have yf : ∀ o, w1.frozen? ⟨w.heap.size, o, none⟩ = false := (fun o => (hb.frozen (p := ⟨w.heap.size, o, none⟩) (by simp <;> omega)).trans (by simp [go_sem])); have yz : w.heap.size < w1.heap.size := (by have := hb.size; (try simp at this); omega); have yy := yz
  have zc : ∀ o, w1.cell? ⟨w.heap.size + 1, o, none⟩ = #[S [], .int .i64 0, S [], .slice none 0 0, .int .i64 0][o]? := (fun o => (hb.cell (p := ⟨w.heap.size + 1, o, none⟩) (by simp <;> omega)).trans (by simp [go_sem])); have zf : ∀ o, w1.frozen? ⟨w.heap.size + 1, o, none⟩ = false := (fun o => (hb.frozen (p := ⟨w.heap.size + 1, o, none⟩) (by simp <;> omega)).trans (by simp [go_sem])); have zz : w.heap.size + 1 < w1.heap.size := (by have := hb.size; (try simp at this); omega); have zy := zz
  have hW : Below w.heap.size w w1 := by exact bBel
  have HO := Lib.hid (own_base ho (show w.heap.size + 2 ≤ _ by simp))
  obtain ⟨A2, c2, rfl, -, -⟩ := (RdL.of_own (f := moC) (bs := ms) ho).form
  clear hb ho
  go_wp2_with fail
  refine bodyPost_ret (v := .agg #[S s, .int .i64 x, S cl, .slice A2 ms.length c2, .int .i64 pa]) (by simp [results, Tryz.results47, go_sem, zc]) rfl ⟨_, rfl, ?_, by (repeat refine up_set ?_ _ _ (by first | exact Nat.le_refl _ | (simp; done) | (simp; omega) | omega)); exact hW⟩
  exact own_base (own_set (own_set (own_set (own_set (own_set (own_set (own_set HO.out _ _ (by simp)) _ _ (by simp)) _ _ (by simp)) _ _ (by simp)) _ _ (by simp)) _ _ (by simp)) _ _ (by simp)) (by omega)

end Go.Proofs.YtbjlkdenkmbepaaGreatDoor

namespace Go.Proofs.YtbjlkdenkmbepaaGreatDoor
open Go.RowKit
set_option linter.unusedVariables false

theorem Is.set {w : World} {b i : Nat} {V : Array Value} (h : Is w b V) (hi : i < V.size) (u : Value) : Is (w.setCell ⟨b, i, none⟩ u) b (V.setIfInBounds i u) := by
  refine ⟨fun o => ?_, fun o => by simp [h.2 o]⟩
  by_cases e : i = o
  · subst e
    rw [World.cell?_setCell_same w ⟨b, i, none⟩ u (u := V[i]) (by rw [h.1]; exact Array.getElem?_eq_getElem hi)]
    simp [hi]
  · rw [World.cell?_setCell_other w ⟨b, i, none⟩ ⟨b, o, none⟩ u (by intro h; injection h; omega), h.1]
    simp [e]
theorem ed_put {w : World} {b : Nat} {c0 c1 c2 c3 c4 : Value} (h : Is w b #[c0, c1, c2, c3, c4]) (u0 u1 u3 u4 : Value) :
    Is ((((w.setCell ⟨b, 3, none⟩ u3).setCell ⟨b, 4, none⟩ u4).setCell ⟨b, 0, none⟩ u0).setCell ⟨b, 1, none⟩ u1) b #[u0, u1, c2, u3, u4] := by
  have := (((h.set (i := 3) (by simp) u3).set (i := 4) (by simp) u4).set (i := 0) (by simp) u0).set (i := 1) (by simp) u1
  simpa using this
theorem Is.drew {w : World} {b : Nat} {V : Array Value} (h : Is w b V) : Is w.drew b V := ⟨h.1, h.2⟩
theorem rdM_put {w : World} {v : Value} {ms : List Mo} {p : Addr} {u : Value} (h : RdM w v ms) (hn : v.ownBlock ≠ some p.block) : RdM (w.setCell p u) v ms :=
  ⟨Rd.keep h.1 (by simp [World.setCell]) (fun b o hv _ => World.cell?_setCell_other w p ⟨b, o, none⟩ u (by intro e; exact hn (by rw [hv, e]))), h.2⟩
theorem rdM_drew {w : World} {v : Value} {ms : List Mo} (h : RdM w v ms) : RdM w.drew v ms := ⟨Rd.keep h.1 (Nat.le_refl _) (fun _ _ _ _ => rfl), h.2⟩
theorem gb_of_up {a b : World} (h : Below a.heap.size a b) (x : Option Nat) : a.grownBy b x := ⟨h.os, h.tape, h.output, h.size, fun i hi _ => h.block i hi⟩

theorem ed_put_all {w W0 W5 : World} {b : Nat} {c0 c1 c2 c3 c4 u0 u1 v a : Value} {ms : List Mo} (hB : Below w.heap.size w W0) (hI : Is W0 b #[c0, c1, c2, c3, c4]) (hz : b < W0.heap.size) (hv : RdM W0 v ms) (hn : v.ownBlock ≠ some b)
    (e : W5 = ((((W0.setCell ⟨b, 3, none⟩ v).setCell ⟨b, 4, none⟩ a).setCell ⟨b, 0, none⟩ u0).setCell ⟨b, 1, none⟩ u1).drew) :
    Is W5 b #[u0, u1, c2, v, a] ∧ RdM W5 v ms ∧ w.grownBy W5 (some b) ∧ b < W5.heap.size := by
  subst e
  have r1 := rdM_put (p := ⟨b, 3, none⟩) (u := v) hv hn
  have r2 := rdM_put (p := ⟨b, 4, none⟩) (u := a) r1 hn
  have r3 := rdM_put (p := ⟨b, 0, none⟩) (u := u0) r2 hn
  have r4 := rdM_put (p := ⟨b, 1, none⟩) (u := u1) r3 hn
  have g1 := gb_here (gb_of_up hB (some b)) (p := ⟨b, 3, none⟩) rfl v
  have g2 := gb_here g1 (p := ⟨b, 4, none⟩) rfl a
  have g3 := gb_here g2 (p := ⟨b, 0, none⟩) rfl u0
  have g4 := gb_here g3 (p := ⟨b, 1, none⟩) rfl u1
  refine ⟨(ed_put hI u0 u1 v a).drew, rdM_drew r4, gb_drew g4, ?_⟩
  clear r1 r2 r3 r4 g1 g2 g3 g4
  simpa [World.setCell, World.drew] using hz

set_option maxRecDepth 100000 in
set_option maxHeartbeats 1000000 in
theorem travel_no (b : Nat) (v2 : Value) (a2 : Int) (t2 : List UInt8) (w : World) :
    Calls Tryz.prog 112 #[.pointer (some ⟨b, 0, none⟩), .agg #[v2, .int .i64 a2], S t2, .bool false] w (fun e w' => e = .returned (.bool false) ∧ Below w.heap.size w w') := by
  go_enter Tryz.func112, Tryz.ntmps112
  go_wp2_with fail
  go_ret
  exact ⟨rfl, by exact bBel⟩
set_option maxRecDepth 100000 in
set_option maxHeartbeats 1000000 in
theorem travel_yes (b : Nat) (s : List UInt8) (x : Int) (cl : List UInt8) (ms : List Mo) (pa : Int) (v2 : Value) (ms2 : List Mo) (a2 : Int) (t2 : List UInt8) (w : World)
    (h : EdBox w b s x cl ms pa) (h2 : RdM w v2 ms2) (hne : v2.ownBlock ≠ some b) :
    Calls Tryz.prog 112 #[.pointer (some ⟨b, 0, none⟩), .agg #[v2, .int .i64 a2], S t2, .bool true] w (fun e w' => e = .returned (.bool true) ∧ w.grownBy w' (some b) ∧ EdBox w' b t2 (min x t2.length) cl ms2 a2) := by
  obtain ⟨v, hI, hv, hvb, hbz⟩ := h
  obtain ⟨A, c, rfl, _, _⟩ := h2.1.form
  obtain ⟨B, d, rfl, _, _⟩ := hv.1.form
  have H2 := Lib.hid h2
  have HN := Lib.hid hne
  clear hv h2 hne hvb
  have hne : ¬ b = w.heap.size := by omega
  have hne2 : ¬ w.heap.size = b := by omega
  go_enter Tryz.func112, Tryz.ntmps112
  go_upto_region 2 with (fail)
  obtain ⟨W0, hw⟩ : ∃ z, z = w.alloc (.cells #[.slice A ms2.length c, .int .i64 a2] 25) := ⟨_, rfl⟩
  rw [← hw]
  have hB : Below w.heap.size w W0 := by rw [hw]; exact up_alloc (Below.refl _ _) _
  have yI : Is W0 w.heap.size #[.slice A ms2.length c, .int .i64 a2] := by rw [hw]; exact new_is w _ _
  have xI : Is W0 b #[S s, .int .i64 x, S cl, .slice B ms.length d, .int .i64 pa] := Is.up hI hbz hB
  have xc := xI.1
  have xf := xI.2
  have yc := yI.1
  have hbz0 : b < W0.heap.size := by rw [hw]; simp; omega
  have HB := Lib.hid hB
  have XI := Lib.hid xI
  clear hI xI yI hw hB
  go_region
  have hm : (if (t2.length : Int) < x then (t2.length : Int) else x) = min x t2.length := by omega
  rw [hm]
  clear hm
  generalize hW5 : World.drew _ = W5
  obtain ⟨I4, R4, G4, Z4⟩ := ed_put_all HB.out XI.out hbz0 (H2.out.up HB.out) HN.out hW5.symm
  clear hW5
  have HQ := Lib.hid (And.intro I4 (And.intro R4 (And.intro G4 Z4)))
  clear I4 R4 G4 Z4 xc xf yc
  go_wp2_with fail
  go_ret
  exact ⟨rfl, HQ.out.2.2.1, _, HQ.out.1, HQ.out.2.1, HN.out, HQ.out.2.2.2⟩

end Go.Proofs.YtbjlkdenkmbepaaGreatDoor

namespace Go.Proofs.YtbjlkdenkmbepaaGreatDoor
open Go.RowKit
set_option linter.unusedVariables false

theorem EdBox.up {w w' : World} {b : Nat} {s : List UInt8} {x : Int} {cl : List UInt8} {ms : List Mo} {pa : Int} (h : EdBox w b s x cl ms pa) (hb : Below w.heap.size w w') : EdBox w' b s x cl ms pa := by
  obtain ⟨v, hI, hv, hn, hz⟩ := h
  exact ⟨v, hI.up hz hb, hv.up hb, hn, Nat.lt_of_lt_of_le hz hb.size⟩
/-- what travel leaves. -/
def TrPost (b : Nat) (s : List UInt8) (x : Int) (cl : List UInt8) (ms : List Mo) (pa : Int) (t2 : List UInt8) (ms2 : List Mo) (a2 : Int) (ok : Bool) (w : World) (e : Ending) (w' : World) : Prop :=
  e = .returned (.bool ok) ∧ w.grownBy w' (some b) ∧ (ok = true → EdBox w' b t2 (min x t2.length) cl ms2 a2) ∧ (ok = false → EdBox w' b s x cl ms pa)
theorem travel_any (b : Nat) (s : List UInt8) (x : Int) (cl : List UInt8) (ms : List Mo) (pa : Int) (v2 : Value) (ms2 : List Mo) (a2 : Int) (t2 : List UInt8) (ok : Bool) (w : World)
    (h : EdBox w b s x cl ms pa) (h2 : RdM w v2 ms2) (hne : v2.ownBlock ≠ some b) :
    Calls Tryz.prog 112 #[.pointer (some ⟨b, 0, none⟩), .agg #[v2, .int .i64 a2], S t2, .bool ok] w (TrPost b s x cl ms pa t2 ms2 a2 ok w) := by
  rcases ok with _ | _
  · exact (travel_no b v2 a2 t2 w).mono fun e w' ⟨he, hb⟩ => ⟨he, gb_of_up hb _, (fun h => by cases h), fun _ => h.up hb⟩
  · exact (travel_yes b s x cl ms pa v2 ms2 a2 t2 w h h2 hne).mono fun e w' ⟨he, hb, hE⟩ => ⟨he, hb, (fun _ => hE), fun h => by cases h⟩

set_option maxRecDepth 100000 in
set_option maxHeartbeats 1000000 in
theorem do_undo (b : Nat) (s : List UInt8) (x : Int) (cl : List UInt8) (ms : List Mo) (k : Nat) (o : List (List UInt8)) (w : World) (h : EdBox w b s x cl ms k) (hg : HGood ms k s o) :
    Calls Tryz.prog 65 #[.pointer (some ⟨b, 0, none⟩), .string ⟨#[117, 110, 100, 111]⟩] w (TrPost b s x cl ms k (toText ms.length o s (ms.getD k m0).par) ms (toAt ms.length k (ms.getD k m0).par) (inB (ms.getD k m0).par 0 ((ms.length : Int) - 1)) w) := by
  have hE := h
  obtain ⟨v, hI, hv, hvb, hbz⟩ := h
  obtain ⟨B, d, rfl, _, _⟩ := hv.1.form
  have HB := Lib.hid (fun (w' : World) (hb : Below w.heap.size w w') => implHistoryBack_yes (.slice B ms.length d) ms k s w' o (hv.up hb) hg)
  generalize toText ms.length o s (ms.getD k m0).par = t2 at *
  generalize toAt ms.length (k : Int) (ms.getD k m0).par = a2 at *
  generalize inB (ms.getD k m0).par 0 ((ms.length : Int) - 1) = ok at *
  unfold HRes at HB
  have hP := hv.2
  have HE := Lib.hid (And.intro hE hP)
  have HZ := Lib.hid hbz
  have xc := hI.1
  have xf := hI.2
  clear hv hvb hI hg hE hP
  go_enter Tryz.func65, Tryz.ntmps65
  go_upto_region 20 with (fail)
  go_region_with (first
    | (go_at_call 113; refine (HB.out _ (by exact bBel)).mono ?_; rintro e w2 ⟨v2, rfl, ho2, hb2⟩; obtain ⟨A2, c2, rfl, -, -⟩ := (RdL.of_own (f := moC) (bs := ms) ho2).form; go_must (have HO2 := Lib.hid ho2; have HB2 := Lib.hid hb2; clear ho2 hb2))
    | (go_at_call 112; refine (travel_any b s x cl ms k _ ms a2 t2 ok w2 (HE.out.1.up (show Below w.heap.size w w2 from ⟨HB2.out.os, HB2.out.tape, HB2.out.output, HB2.out.size, HB2.out.block⟩)) ⟨RdL.of_own HO2.out, HE.out.2⟩ (by intro e; have := HZ.out; have := (HO2.out.lt b e).1; simp at this; omega)).mono ?_; rintro e w3 ⟨rfl, hgr, h1, h2⟩))
  all_goals
    have hG := gb_trans (gb_of_up (show Below w.heap.size w w2 from ⟨HB2.out.os, HB2.out.tape, HB2.out.output, HB2.out.size, HB2.out.block⟩) (some b)) hgr
    have HQ := Lib.hid (And.intro hG (And.intro h1 h2))
    clear hG h1 h2 hgr HB2 HO2 HB xc xf
    go_wp2_with fail
    go_ret
    exact ⟨rfl, HQ.out⟩

set_option maxRecDepth 100000 in
set_option maxHeartbeats 1000000 in
theorem do_redo (b : Nat) (s : List UInt8) (x : Int) (cl : List UInt8) (ms : List Mo) (k : Nat) (o : List (List UInt8)) (w : World) (h : EdBox w b s x cl ms k) (hg : HGood ms k s o) :
    Calls Tryz.prog 65 #[.pointer (some ⟨b, 0, none⟩), .string ⟨#[114, 101, 100, 111]⟩] w (TrPost b s x cl ms k (toText ms.length o s (foTo ms k ms.length)) ms (toAt ms.length k (foTo ms k ms.length)) (inB (foTo ms k ms.length) 0 ((ms.length : Int) - 1)) w) := by
  have hE := h
  obtain ⟨v, hI, hv, hvb, hbz⟩ := h
  obtain ⟨B, d, rfl, _, _⟩ := hv.1.form
  have HB := Lib.hid (fun (w' : World) (hb : Below w.heap.size w w') => implHistoryForth_yes (.slice B ms.length d) ms k s w' o (hv.up hb) hg)
  generalize toText ms.length o s (foTo ms k ms.length) = t2 at *
  generalize toAt ms.length (k : Int) (foTo ms k ms.length) = a2 at *
  generalize inB (foTo ms k ms.length) 0 ((ms.length : Int) - 1) = ok at *
  unfold HRes at HB
  have hP := hv.2
  have HE := Lib.hid (And.intro hE hP)
  have HZ := Lib.hid hbz
  have xc := hI.1
  have xf := hI.2
  clear hv hvb hI hg hE hP
  go_enter Tryz.func65, Tryz.ntmps65
  go_upto_region 22 with (fail)
  go_region_with (first
    | (go_at_call 114; refine (HB.out _ (by exact bBel)).mono ?_; rintro e w2 ⟨v2, rfl, ho2, hb2⟩; obtain ⟨A2, c2, rfl, -, -⟩ := (RdL.of_own (f := moC) (bs := ms) ho2).form; go_must (have HO2 := Lib.hid ho2; have HB2 := Lib.hid hb2; clear ho2 hb2))
    | (go_at_call 112; refine (travel_any b s x cl ms k _ ms a2 t2 ok w2 (HE.out.1.up (show Below w.heap.size w w2 from ⟨HB2.out.os, HB2.out.tape, HB2.out.output, HB2.out.size, HB2.out.block⟩)) ⟨RdL.of_own HO2.out, HE.out.2⟩ (by intro e; have := HZ.out; have := (HO2.out.lt b e).1; simp at this; omega)).mono ?_; rintro e w3 ⟨rfl, hgr, h1, h2⟩))
  all_goals
    have hG := gb_trans (gb_of_up (show Below w.heap.size w w2 from ⟨HB2.out.os, HB2.out.tape, HB2.out.output, HB2.out.size, HB2.out.block⟩) (some b)) hgr
    have HQ := Lib.hid (And.intro hG (And.intro h1 h2))
    clear hG h1 h2 hgr HB2 HO2 HB xc xf
    go_wp2_with fail
    go_ret
    exact ⟨rfl, HQ.out⟩

end Go.Proofs.YtbjlkdenkmbepaaGreatDoor

namespace Go.Proofs.YtbjlkdenkmbepaaGreatDoor
open Go.RowKit
set_option linter.unusedVariables false

/-- what do leaves: the new editor in box b, if it is done. -/
def DoPost (b : Nat) (s2 : List UInt8) (x2 : Int) (cl2 : List UInt8) (ms2 : List Mo) (a2 : Int) (ok : Bool) (w : World) (e : Ending) (w' : World) : Prop :=
  e = .returned (.bool ok) ∧ w.grownBy w' (some b) ∧ (ok = true → EdBox w' b s2 x2 cl2 ms2 a2)
/-- what EditorDo gives. -/
def EdDone (s : List UInt8) (x : Int) (cl : List UInt8) (ms : List Mo) (pa : Int) (ok : Bool) (w : World) (e : Ending) (w' : World) : Prop :=
  ∃ u, e = .returned (.tuple #[edAgg s x cl u pa, .bool ok]) ∧ OwnM w' w.heap.size u ms ∧ Below w.heap.size w w'

set_option maxRecDepth 100000 in
set_option maxHeartbeats 1000000 in
theorem implEditorDo_fail (act : Value) (v : Value) (ms : List Mo) (pa : Int) (s : List UInt8) (x : Int) (cl : List UInt8) (w : World) (h : RdM w v ms) (hok : EdOk ms pa s x cl)
    (s2 : List UInt8) (x2 : Int) (cl2 : List UInt8) (ms2 : List Mo) (a2 : Int)
    (D : ∀ b w', Below w.heap.size w w' → EdBox w' b s x cl ms pa → Calls Tryz.prog 65 #[.pointer (some ⟨b, 0, none⟩), act] w' (DoPost b s2 x2 cl2 ms2 a2 false w')) :
    Calls Tryz.prog 21 #[edAgg s x cl v pa, act] w (EdDone s x cl ms pa false w) := by
  have hg := hok.1
  have hn : ms.length ≤ 1048576 := by obtain ⟨o, hg⟩ := hg; have := hg.n30; omega
  have hs : s.length ≤ maxLen := by obtain ⟨o, hg⟩ := hg; have := tv_len hg.t; unfold maxLen; omega
  have hc : cl.length ≤ maxLen := by have := tv_len hok.2.2; unfold maxLen; omega
  obtain ⟨A, c, rfl, _, _⟩ := h.1.form
  have T := Lib.hid (fun (w' : World) (hb : Below w.heap.size w w') => implEditorValid_any (.slice A ms.length c) ms pa s x cl w' (h.up hb) hn hs hc)
  have C := Lib.hid (fun (w' : World) (hb : Below w.heap.size w w') => edClone_any (.slice A ms.length c) ms pa s x cl w' (h.up hb) hn)
  have HD := Lib.hid D
  have HO := Lib.hid hok
  have HP := Lib.hid h.2
  clear h hg D hok
  unfold EdDone
  unfold EdNew at C
  unfold edAgg at T C ⊢
  go_enter Tryz.func21, Tryz.ntmps21
  go_wp2_with fail
  refine (T.out _ (by exact bBel)).mono ?_
  rintro e w1 ⟨ok, rfl, hh, hb⟩
  obtain rfl : ok = true := hh.2 HO.out
  have xc : ∀ o, w1.cell? ⟨w.heap.size, o, none⟩ = #[S s, .int .i64 x, S cl, .slice A ms.length c, .int .i64 pa][o]? := (fun o => (hb.cell (p := ⟨w.heap.size, o, none⟩) (by simp <;> omega)).trans (by simp [go_sem])); have xf : ∀ o, w1.frozen? ⟨w.heap.size, o, none⟩ = false := (fun o => (hb.frozen (p := ⟨w.heap.size, o, none⟩) (by simp <;> omega)).trans (by simp [go_sem])); have xz : w.heap.size < w1.heap.size := (by have := hb.size; (try simp at this); omega); have xy := xz
  have yc : ∀ o, w1.cell? ⟨w.heap.size + 1, o, none⟩ = #[S [], .int .i64 0, S [], .slice none 0 0, .int .i64 0][o]? := (fun o => (hb.cell (p := ⟨w.heap.size + 1, o, none⟩) (by simp <;> omega)).trans (by simp [go_sem])); have yf : ∀ o, w1.frozen? ⟨w.heap.size + 1, o, none⟩ = false := (fun o => (hb.frozen (p := ⟨w.heap.size + 1, o, none⟩) (by simp <;> omega)).trans (by simp [go_sem])); have yz : w.heap.size + 1 < w1.heap.size := (by have := hb.size; (try simp at this); omega); have yy := yz
  have hW : Below w.heap.size w w1 := by exact bBel
  clear hb hh T
  go_wp2_with fail
  refine (C.out _ (by exact bBel)).mono ?_
  rintro e w2 ⟨v2, rfl, ho, hb⟩
  have hB : Below w1.heap.size w1 w2 := (by exact bBel); replace xc := up_c hB xz xc; replace xf := up_f hB xz xf; replace xz := Nat.lt_of_lt_of_le xz hB.size; replace yc := up_c hB yz yc; replace yf := up_f hB yz yf; replace yz := Nat.lt_of_lt_of_le yz hB.size; have sw2 := hB.size; replace hW := up_trans hW hB; clear hB
  obtain ⟨A2, c2, rfl, -, -⟩ := (RdL.of_own (f := moC) (bs := ms) ho).form
  have HO2 := Lib.hid ho
  clear hb ho
  go_wp2_with fail
  have hE : EdBox (w2.alloc (.cells #[S s, .int .i64 x, S cl, .slice A2 ms.length c2, .int .i64 pa] 27)) w2.heap.size s x cl ms pa :=
    ⟨_, new_is w2 _ _, RdM.up ⟨RdL.of_own HO2.out, HP.out⟩ (up_alloc (Below.refl _ _) _), (fun e => by have := (HO2.out.lt _ e).2; omega), by simp⟩
  refine (HD.out _ _ (up_alloc hW _) hE).mono ?_
  rintro e w4 ⟨rfl, hgr0, -⟩
  have hgr : w2.grownBy w4 (some w2.heap.size) := gb_trans (gb_alloc (World.grownBy.refl _ _) _) hgr0
  have xc4 := gup_c hgr xz (by omega) xc
  have yc4 := gup_c hgr yz (by omega) yc
  have yf4 := gup_f hgr yz (by omega) yf
  have xz4 := Nat.lt_of_lt_of_le xz hgr.size
  have yz4 := Nat.lt_of_lt_of_le yz hgr.size
  have hW4 : Below w.heap.size w w4 := up_grown hW hgr (fun k hk => by injection hk with hk; omega)
  clear hgr0 hgr xc xf yc yf xz yz hE hW HO2 HD
  go_wp2_with fail
  refine (C.out _ hW4).mono ?_
  rintro e w5 ⟨v5, rfl, ho, hb⟩
  have yc := up_c hb yz4 yc4
  have yf := up_f hb yz4 yf4
  have hW := up_trans hW4 hb
  have HO5 := Lib.hid (own_base ho (show w.heap.size + 2 ≤ _ by omega))
  obtain ⟨A5, c5, rfl, -, -⟩ := (RdL.of_own (f := moC) (bs := ms) ho).form
  clear hb ho hW4 xc4 yc4 yf4
  go_wp2_with fail
  refine bodyPost_ret (v := .tuple #[.agg #[S s, .int .i64 x, S cl, .slice A5 ms.length c5, .int .i64 pa], .bool false]) (by simp [results, Tryz.results21, go_sem, yc]) rfl ⟨_, rfl, ?_, by (repeat refine up_set ?_ _ _ (by first | exact Nat.le_refl _ | (simp; done) | (simp; omega) | omega)); exact hW⟩
  exact own_base (own_set (own_set (own_set (own_set (own_set HO5.out _ _ (by simp)) _ _ (by simp)) _ _ (by simp)) _ _ (by simp)) _ _ (by simp)) (by omega)

end Go.Proofs.YtbjlkdenkmbepaaGreatDoor
