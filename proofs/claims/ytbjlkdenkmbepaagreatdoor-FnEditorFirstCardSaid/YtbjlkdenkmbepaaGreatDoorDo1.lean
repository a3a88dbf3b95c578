/- What is proved here: contracts of the program's travel. No condition. -/
import Derived.Test.YtbjlkdenkmbepaaGreatDoorDo0
import Derived.BigRegion
namespace Go.Proofs.YtbjlkdenkmbepaaGreatDoor
open Go.RowKit
set_option linter.unusedVariables false

theorem Is.set {w : World} {b i : Nat} {V : Array Value} (h : Is w b V) (hi : i < V.size) (u : Value) : Is (w.setCell ⟨b, i, none⟩ u) b (V.setIfInBounds i u) := by
  refine ⟨fun o => ?_, fun o => by simp [h.2 o]⟩
  by_cases e : i = o
  · subst e
    rw [World.cell?_setCell_same w ⟨b, i, none⟩ u (u := V[i]) (by rw [h.1]; exact Array.getElem?_eq_getElem hi)]
    simp [hi]
  · rw [World.cell?_setCell_other w ⟨b, i, none⟩ ⟨b, o, none⟩ u (by intro h; injection h; omega), h.1]
    simp [e]
theorem ed_put {w : World} {b : Nat} {c0 c1 c2 c3 c4 : Value} (h : Is w b #[c0, c1, c2, c3, c4]) (u0 u1 u3 u4 : Value) :
    Is ((((w.setCell ⟨b, 3, none⟩ u3).setCell ⟨b, 4, none⟩ u4).setCell ⟨b, 0, none⟩ u0).setCell ⟨b, 1, none⟩ u1) b #[u0, u1, c2, u3, u4] := by
  have := (((h.set (i := 3) (by simp) u3).set (i := 4) (by simp) u4).set (i := 0) (by simp) u0).set (i := 1) (by simp) u1
  simpa using this
theorem Is.drew {w : World} {b : Nat} {V : Array Value} (h : Is w b V) : Is w.drew b V := ⟨h.1, h.2⟩
theorem rdM_put {w : World} {v : Value} {ms : List Mo} {p : Addr} {u : Value} (h : RdM w v ms) (hn : v.ownBlock ≠ some p.block) : RdM (w.setCell p u) v ms :=
  ⟨Rd.keep h.1 (by simp [World.setCell]) (fun b o hv _ => World.cell?_setCell_other w p ⟨b, o, none⟩ u (by intro e; exact hn (by rw [hv, e]))), h.2⟩
theorem rdM_drew {w : World} {v : Value} {ms : List Mo} (h : RdM w v ms) : RdM w.drew v ms := ⟨Rd.keep h.1 (Nat.le_refl _) (fun _ _ _ _ => rfl), h.2⟩
theorem gb_of_up {a b : World} (h : Below a.heap.size a b) (x : Option Nat) : a.grownBy b x := ⟨h.os, h.tape, h.output, h.size, fun i hi _ => h.block i hi⟩

theorem ed_put_all {w W0 W5 : World} {b : Nat} {c0 c1 c2 c3 c4 u0 u1 v a : Value} {ms : List Mo} (hB : Below w.heap.size w W0) (hI : Is W0 b #[c0, c1, c2, c3, c4]) (hz : b < W0.heap.size) (hv : RdM W0 v ms) (hn : v.ownBlock ≠ some b)
    (e : W5 = ((((W0.setCell ⟨b, 3, none⟩ v).setCell ⟨b, 4, none⟩ a).setCell ⟨b, 0, none⟩ u0).setCell ⟨b, 1, none⟩ u1).drew) :
    Is W5 b #[u0, u1, c2, v, a] ∧ RdM W5 v ms ∧ w.grownBy W5 (some b) ∧ b < W5.heap.size := by
  subst e
  have r1 := rdM_put (p := ⟨b, 3, none⟩) (u := v) hv hn
  have r2 := rdM_put (p := ⟨b, 4, none⟩) (u := a) r1 hn
  have r3 := rdM_put (p := ⟨b, 0, none⟩) (u := u0) r2 hn
  have r4 := rdM_put (p := ⟨b, 1, none⟩) (u := u1) r3 hn
  have g1 := gb_here (gb_of_up hB (some b)) (p := ⟨b, 3, none⟩) rfl v
  have g2 := gb_here g1 (p := ⟨b, 4, none⟩) rfl a
  have g3 := gb_here g2 (p := ⟨b, 0, none⟩) rfl u0
  have g4 := gb_here g3 (p := ⟨b, 1, none⟩) rfl u1
  refine ⟨(ed_put hI u0 u1 v a).drew, rdM_drew r4, gb_drew g4, ?_⟩
  clear r1 r2 r3 r4 g1 g2 g3 g4
  simpa [World.setCell, World.drew] using hz

set_option maxRecDepth 100000 in
set_option maxHeartbeats 1000000 in
theorem travel_no (b : Nat) (v2 : Value) (a2 : Int) (t2 : List UInt8) (w : World) :
    Calls Tryz.prog 112 #[.pointer (some ⟨b, 0, none⟩), .agg #[v2, .int .i64 a2], S t2, .bool false] w (fun e w' => e = .returned (.bool false) ∧ Below w.heap.size w w') := by
  go_enter Tryz.func112, Tryz.ntmps112
  go_wp2_with fail
  go_ret
  exact ⟨rfl, by (repeat (first | exact Below.refl _ _ | assumption | refine Below.drew ?_ | refine up_drewN ?_ _ | refine up_alloc ?_ _ | refine up_set ?_ _ _ (by first | exact Nat.le_refl _ | (simp; done) | (simp; omega) | omega) | refine up_trans ?_ (by assumption)))⟩
set_option maxRecDepth 100000 in
set_option maxHeartbeats 1000000 in
theorem travel_yes (b : Nat) (s : List UInt8) (x : Int) (cl : List UInt8) (ms : List Mo) (pa : Int) (v2 : Value) (ms2 : List Mo) (a2 : Int) (t2 : List UInt8) (w : World)
    (h : EdBox w b s x cl ms pa) (h2 : RdM w v2 ms2) (hne : v2.ownBlock ≠ some b) :
    Calls Tryz.prog 112 #[.pointer (some ⟨b, 0, none⟩), .agg #[v2, .int .i64 a2], S t2, .bool true] w (fun e w' => e = .returned (.bool true) ∧ w.grownBy w' (some b) ∧ EdBox w' b t2 (min x t2.length) cl ms2 a2) := by
  obtain ⟨v, hI, hv, hvb, hbz⟩ := h
  obtain ⟨A, c, rfl, _, _⟩ := h2.1.form
  obtain ⟨B, d, rfl, _, _⟩ := hv.1.form
  have H2 := Lib.hid h2
  have HN := Lib.hid hne
  clear hv h2 hne hvb
  have hne : ¬ b = w.heap.size := by omega
  have hne2 : ¬ w.heap.size = b := by omega
  go_enter Tryz.func112, Tryz.ntmps112
  go_upto_region 2 with (fail)
  obtain ⟨W0, hw⟩ : ∃ z, z = w.alloc (.cells #[.slice A ms2.length c, .int .i64 a2] 25) := ⟨_, rfl⟩
  rw [← hw]
  have hB : Below w.heap.size w W0 := by rw [hw]; exact up_alloc (Below.refl _ _) _
  have yI : Is W0 w.heap.size #[.slice A ms2.length c, .int .i64 a2] := by rw [hw]; exact new_is w _ _
  have xI : Is W0 b #[S s, .int .i64 x, S cl, .slice B ms.length d, .int .i64 pa] := Is.up hI hbz hB
  have xc := xI.1
  have xf := xI.2
  have yc := yI.1
  have hbz0 : b < W0.heap.size := by rw [hw]; simp; omega
  have HB := Lib.hid hB
  have XI := Lib.hid xI
  clear hI xI yI hw hB
  go_region
  have hm : (if (t2.length : Int) < x then (t2.length : Int) else x) = min x t2.length := by omega
  rw [hm]
  clear hm
  generalize hW5 : World.drew _ = W5
  obtain ⟨I4, R4, G4, Z4⟩ := ed_put_all HB.out XI.out hbz0 (H2.out.up HB.out) HN.out hW5.symm
  clear hW5
  have HQ := Lib.hid (And.intro I4 (And.intro R4 (And.intro G4 Z4)))
  clear I4 R4 G4 Z4 xc xf yc
  go_wp2_with fail
  go_ret
  exact ⟨rfl, HQ.out.2.2.1, _, HQ.out.1, HQ.out.2.1, HN.out, HQ.out.2.2.2⟩

end Go.Proofs.YtbjlkdenkmbepaaGreatDoor
