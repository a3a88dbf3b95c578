/- What is proved here: facts and contracts that the walks above this text need. No condition. -/
import Derived.Test.YtbjlkdenkmbepaaGreatDoorEd0
import Derived.Test.YtbjlkdenkmbepaaGreatDoorXA
import Derived.Test.YtbjlkdenkmbepaaGreatDoorHNx
import Derived.Test.YtbjlkdenkmbepaaGreatDoorDo5
import Derived.Test.YtbjlkdenkmbepaaGreatDoorHistJ
import Derived.Test.YtbjlkdenkmbepaaGreatDoorHistE
import Derived.Test.YtbjlkdenkmbepaaGreatDoorHistF
import Derived.Test.YtbjlkdenkmbepaaGreatDoorEverL
namespace Go.Proofs.YtbjlkdenkmbepaaGreatDoor
open Go.RowKit
set_option linter.unusedVariables false

def SzEPost (s cl : List UInt8) (ms : List Mo) (w : World) (e : Ending) (w' : World) : Prop := ∃ r : Int, e = .returned (.int .i64 r) ∧ r ≤ 1048576 ∧ (0 ≤ r → SmallM ms ∧ s.length ≤ 1048576 ∧ cl.length ≤ 1048576) ∧ Below w.heap.size w w'
set_option maxRecDepth 100000 in
set_option maxHeartbeats 1000000 in
theorem szEditor_any (v : Value) (ms : List Mo) (pa : Int) (s : List UInt8) (at_ : Int) (cl : List UInt8) (w : World) (h : RdM0 w v ms) (hs : s.length ≤ maxLen) (hc : cl.length ≤ maxLen) :
    Calls Tryz.prog 18 #[edAgg s at_ cl v pa, .int .i64 1048576] w (SzEPost s cl ms w) := by
  obtain ⟨A, c, rfl, hm, _⟩ := h.1.form
  unfold edAgg
  unfold maxLen at hs hc
  by_cases h1 : 1048576 < s.length
  · go_enter Tryz.func18, Tryz.ntmps18
    go_wp2_with fail
    go_ret
    exact ⟨-1, rfl, by omega, fun h => absurd h (by omega), by exact bBel⟩
  by_cases h2 : 1048576 - (s.length : Int) < cl.length
  · go_enter Tryz.func18, Tryz.ntmps18
    go_wp2_with fail
    go_ret
    exact ⟨-1, rfl, by omega, fun h => absurd h (by omega), by exact bBel⟩
  have g1 : 0 ≤ 1048576 - (s.length : Int) - (cl.length : Int) := by omega
  have g2 : 1048576 - (s.length : Int) - (cl.length : Int) ≤ 1048576 := by omega
  have Z := Lib.hid (fun (w' : World) (hb : Below w.heap.size w w') => szHistory_any (.slice A ms.length c) ms pa (1048576 - (s.length : Int) - (cl.length : Int)) w' (h.up hb) g1 g2)
  unfold SzMPost at Z
  have HG := Lib.hid (show SmallM ms → SmallM ms ∧ s.length ≤ 1048576 ∧ cl.length ≤ 1048576 from fun h => ⟨h, by omega, by omega⟩)
  unfold SzEPost
  generalize (SmallM ms ∧ s.length ≤ 1048576 ∧ cl.length ≤ 1048576) = G at *
  generalize SmallM ms = G0 at *
  clear h
  go_enter Tryz.func18, Tryz.ntmps18
  go_wp2_with fail
  refine (Z.out _ (by exact bBel)).mono ?_
  rintro e w1 ⟨r, rfl, hr, hg, hb⟩
  have hW : Below w.heap.size w w1 := by exact bBel
  have HG0 := Lib.hid hg
  clear hb hg Z
  by_cases hr0 : r < 0
  · go_wp2_with fail
    go_ret
    exact ⟨-1, rfl, by omega, fun h => absurd h (by omega), by exact bBel⟩
  · go_wp2_with fail
    go_ret
    exact ⟨r, rfl, hr, fun h => HG.out (HG0.out h), by exact bBel⟩

/-- a call that returns an editor whose history is the call's own. -/
def ToEPost (s : List UInt8) (at_ : Int) (cl : List UInt8) (ms : List Mo) (pa : Int) (w : World) (e : Ending) (w' : World) : Prop := ∃ v, e = .returned (edAgg s at_ cl v pa) ∧ OwnM w' w.heap.size v ms ∧ Below w.heap.size w w'
set_option maxRecDepth 100000 in
set_option maxHeartbeats 1000000 in
theorem toEditor_any (v : Value) (ms : List Mo) (pa : Int) (s : List UInt8) (at_ : Int) (cl : List UInt8) (w : World) (h : RdM0 w v ms) (hn : ms.length ≤ 1048576) :
    Calls Tryz.prog 20 #[edAgg s at_ cl v pa] w (ToEPost s at_ cl ms pa w) := by
  obtain ⟨A, c, rfl, _, _⟩ := h.1.form
  have T := Lib.hid (fun (w' : World) (hb : Below w.heap.size w w') => toHistory_any (.slice A ms.length c) ms pa w' (h.up hb) hn)
  clear h
  unfold CopyPost at T
  unfold ToEPost edAgg
  go_enter Tryz.func20, Tryz.ntmps20
  go_wp2_with fail
  refine (T.out _ (by exact bBel)).mono ?_
  rintro e w1 ⟨v1, rfl, ho1, hb⟩
  have yc : ∀ o, w1.cell? ⟨w.heap.size + 1, o, none⟩ = #[S [], .int .i64 0, S [], .slice none 0 0, .int .i64 0][o]? := (fun o => (hb.cell (p := ⟨w.heap.size + 1, o, none⟩) (by simp <;> omega)).trans (by simp [go_sem])); have yf : ∀ o, w1.frozen? ⟨w.heap.size + 1, o, none⟩ = false := (fun o => (hb.frozen (p := ⟨w.heap.size + 1, o, none⟩) (by simp <;> omega)).trans (by simp [go_sem])); have yz : w.heap.size + 1 < w1.heap.size := (by have := hb.size; (try simp at this); omega); have yy := yz
  have zc : ∀ o, w1.cell? ⟨w.heap.size + 2, o, none⟩ = #[S s, .int .i64 at_, S cl, .slice none 0 0, .int .i64 0][o]? := (fun o => (hb.cell (p := ⟨w.heap.size + 2, o, none⟩) (by simp <;> omega)).trans (by simp [go_sem])); have zf : ∀ o, w1.frozen? ⟨w.heap.size + 2, o, none⟩ = false := (fun o => (hb.frozen (p := ⟨w.heap.size + 2, o, none⟩) (by simp <;> omega)).trans (by simp [go_sem])); have zz : w.heap.size + 2 < w1.heap.size := (by have := hb.size; (try simp at this); omega); have zy := zz
  have hW : Below w.heap.size w w1 := by exact bBel
  have HO := Lib.hid (own_base ho1 (show w.heap.size + 3 ≤ _ by simp))
  obtain ⟨A1, c1, rfl, -, -⟩ := (RdL.of_own (f := moC) (bs := ms) ho1).form
  clear hb ho1 T
  go_wp2_with fail
  refine bodyPost_ret (v := .agg #[S s, .int .i64 at_, S cl, .slice A1 ms.length c1, .int .i64 pa]) (by simp [results, Tryz.results20, go_sem, yc]) rfl ⟨_, rfl, ?_, by (repeat refine up_set ?_ _ _ (by first | exact Nat.le_refl _ | (simp; done) | (simp; omega) | omega)); exact hW⟩
  exact own_base (own_set (own_set (own_set (own_set (own_set (own_set (own_set HO.out _ _ (by simp)) _ _ (by simp)) _ _ (by simp)) _ _ (by simp)) _ _ (by simp)) _ _ (by simp)) _ _ (by simp)) (by omega)

set_option maxRecDepth 100000 in
set_option maxHeartbeats 1000000 in
theorem eqEditor_same (u v : Value) (ms : List Mo) (pa : Int) (s : List UInt8) (at_ : Int) (cl : List UInt8) (w : World) (hu : RdL w 7 moC u ms) (hv : RdL w 7 moC v ms) :
    Calls Tryz.prog 22 #[edAgg s at_ cl u pa, edAgg s at_ cl v pa] w fun e w' => e = .returned (.bool true) ∧ Below w.heap.size w w' := by
  obtain ⟨A, c, rfl, hm, _⟩ := hu.form
  obtain ⟨B, d, rfl, _, _⟩ := hv.form
  have T := Lib.hid (fun (w' : World) (hb : Below w.heap.size w w') => eqHistory_same (.slice A ms.length c) (.slice B ms.length d) ms pa w' (hu.up hb) (hv.up hb))
  clear hu hv
  unfold edAgg
  go_enter Tryz.func22, Tryz.ntmps22
  go_wp2_with fail
  refine (T.out _ (by exact bBel)).mono ?_
  rintro e w1 ⟨rfl, hb⟩
  have hW : Below w.heap.size w w1 := by exact bBel
  clear hb T
  go_wp2_with fail
  go_ret
  exact ⟨rfl, by exact bBel⟩

end Go.Proofs.YtbjlkdenkmbepaaGreatDoor

namespace Go.Proofs.YtbjlkdenkmbepaaGreatDoor
open Go.RowKit
set_option linter.unusedVariables false

set_option maxRecDepth 100000 in
theorem markEditor_any (base : Nat) (v : Value) (n : Nat) (a : Int) (s : List UInt8) (x : Int) (cl : List UInt8) (xs : List Value) (q : Nat) (w : World) (hq : 1 ≤ q) (hq2 : q ≤ 100) (hn : n ≤ 1048576) (hbw : base ≤ w.heap.size) (ho : Own w base 96 7 v n xs) :
    Calls Tryz.prog 23 #[edAgg s x cl v a, .int .i64 q] w fun e w' => e = .returned (.int .i64 ((q + 7 * n : Nat) : Int)) ∧ Own w' base 96 7 v n ((mkM q n).flatMap moC) ∧ w.grownBy w' v.ownBlock := by
  have form : ∃ A c, v = .slice A n c := by
    rcases ho.2 with ⟨rfl, rfl⟩ | ⟨g, cap, cur, rfl, _⟩
    · exact ⟨_, _, rfl⟩
    · exact ⟨_, _, rfl⟩
  obtain ⟨A, c, rfl⟩ := form
  have T := Lib.hid (fun (w' : World) (hb : Below w.heap.size w w') => markHistory_any base (.slice A n c) n a xs q w' hq hq2 hn (Nat.le_trans hbw hb.size) (own_up ho hb))
  clear ho
  unfold edAgg
  go_enter Tryz.func23, Tryz.ntmps23
  go_wp2_with fail
  refine (T.out _ (by exact bBel)).mono ?_
  rintro e w1 ⟨rfl, ho1, hgr⟩
  have HO := Lib.hid ho1
  have HG : Hid (w.grownBy w1 (Value.slice A n c).ownBlock) := Lib.hid (gb_trans (gb_below (World.grownBy.refl _ _) (by exact bBel)) hgr)
  clear hgr ho1 T
  go_wp2_with fail
  go_ret
  exact ⟨rfl, HO.out, HG.out⟩

set_option maxRecDepth 100000 in
theorem heldEditor_any (v : Value) (n : Nat) (a : Int) (s : List UInt8) (x : Int) (cl : List UInt8) (q : Nat) (w : World) (hq : 1 ≤ q) (hq2 : q ≤ 100) (hn : n ≤ 1048576) (hu : RdL w 7 moC v (mkM q n)) :
    Calls Tryz.prog 24 #[edAgg s x cl v a, .int .i64 q] w fun e w' => e = .returned (.int .i64 ((q + 7 * n : Nat) : Int)) ∧ Below w.heap.size w w' := by
  obtain ⟨A, c, rfl, _, _⟩ := hu.form
  rw [mkM_len] at *
  have T := Lib.hid (fun (w' : World) (hb : Below w.heap.size w w') => heldHistory_any (.slice A n c) n a q w' hq hq2 hn (hu.up hb))
  clear hu
  unfold edAgg
  go_enter Tryz.func24, Tryz.ntmps24
  go_wp2_with fail
  refine (T.out _ (by exact bBel)).mono ?_
  rintro e w1 ⟨rfl, hb⟩
  have hW : Below w.heap.size w w1 := by exact bBel
  have p1 : ¬ ((q + 7 * n : Nat) : Int) < 0 := by omega
  clear hb T
  go_wp2_with fail
  go_ret
  exact ⟨rfl, hW⟩

end Go.Proofs.YtbjlkdenkmbepaaGreatDoor

namespace Go.Proofs.YtbjlkdenkmbepaaGreatDoor
open Go.ChangeShapes Go.WideShapes Go.ChangeAt Go.RowKit Go.Deep
set_option linter.unusedVariables false

structure EdArg where
  s : List UInt8
  x : Int
  cl : List UInt8
  pa : Int
  ms : List Mo
def RdE (w : World) (v : Value) (E : EdArg) : Prop := ∃ u, v = edAgg E.s E.x E.cl u E.pa ∧ RdM0 w u E.ms ∧ E.s.length ≤ maxLen ∧ E.cl.length ≤ maxLen

theorem arr5 {cs : Array Value} (h : cs.size = 5) : ∃ a b c d e, cs = #[a, b, c, d, e] := by
  obtain ⟨l⟩ := cs
  match l, h with
  | [a, b, c, d, e], _ => exact ⟨a, b, c, d, e, rfl⟩
theorem cellsEd : Tryz.prog.cellsOf 41 = 5 := by kernel_rfl
theorem cellsHi : Tryz.prog.cellsOf 39 = 2 := by kernel_rfl
set_option maxRecDepth 100000 in
theorem rdE_arg {H : Type} {enc : TypeId × Value → H} {W : World} {base : Nat} {spare : Nat → Bool} {held : Bool} {v : Value} {d : DataW H} {ps : List MemPlace} {r : Reach} {b0 : Nat}
    (hv : Value.okWide Tryz.prog W r b0 41 v) (h : DataW.Trod enc Tryz.prog W base spare held 41 v d ps) : ∃ E, RdE W v E := by
  obtain ⟨cs, rfl, hsz⟩ := okWide_struct Tryz.underlying41 hv
  obtain ⟨c0, c1, c2, c3, c4, rfl⟩ := arr5 (hsz.trans cellsEd)
  obtain ⟨fuel, hf⟩ := h
  obtain ⟨ys, n, _, _, _, hyl, hfl⟩ := DataW.trod_struct Tryz.underlying41 hf
  have k1 : Tryz.prog.cellsOf 3 = 1 := by kernel_rfl
  have k2 : Tryz.prog.cellsOf 9 = 1 := by kernel_rfl
  have k3 : Tryz.prog.cellsOf 37 = 1 := by kernel_rfl
  match ys, hyl with
  | [y0, y1, y2, y3], _ =>
    have t0 := hfl 0 _ rfl
    have t1 := hfl 1 _ rfl
    have t2 := hfl 2 _ rfl
    have t3 := hfl 3 _ rfl
    simp [Value.cells, k1, k2, cellsHi] at t0 t1 t2 t3
    obtain ⟨⟨⟨s0⟩⟩, e0, _, w0⟩ := DataW.trod_string Tryz.underlying9 t0
    obtain ⟨a1, e1, _, _⟩ := DataW.trod_int Tryz.underlying3 t1
    obtain ⟨⟨⟨s2⟩⟩, e2, _, w2⟩ := DataW.trod_string Tryz.underlying9 t2
    obtain ⟨z0, z1, n', _, _, u0, u1⟩ := trod_struct2 Tryz.underlying39 t3
    simp [k1, k3] at u0 u1
    obtain ⟨ms, hm⟩ := rdM_arg u0
    obtain ⟨a4, e4, _, _⟩ := DataW.trod_int Tryz.underlying3 u1
    simp at e0 e1 e2 e4
    subst e0 e1 e2 e4
    exact ⟨⟨s0, a1, s2, a4, ms⟩, c3, rfl, hm, w0, w2⟩

end Go.Proofs.YtbjlkdenkmbepaaGreatDoor

namespace Go.Proofs.YtbjlkdenkmbepaaGreatDoor
open Go.RowKit
set_option linter.unusedVariables false

end Go.Proofs.YtbjlkdenkmbepaaGreatDoor

namespace Go.Proofs.YtbjlkdenkmbepaaGreatDoor
open Go.RowKit
set_option linter.unusedVariables false

theorem rdM0_of {w : World} {base : Nat} {v : Value} {ms : List Mo} (h : OwnM w base v ms) (hs : SmallM ms) : RdM w v ms := ⟨RdL.of_own h, hs.2⟩

end Go.Proofs.YtbjlkdenkmbepaaGreatDoor

namespace Go.Proofs.YtbjlkdenkmbepaaGreatDoor
open Go.RowKit
set_option linter.unusedVariables false

end Go.Proofs.YtbjlkdenkmbepaaGreatDoor
