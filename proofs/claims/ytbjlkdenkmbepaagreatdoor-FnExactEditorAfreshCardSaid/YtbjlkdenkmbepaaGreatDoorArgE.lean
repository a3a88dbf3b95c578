/- What is proved here: an argument that is an editor reads as its text, its cursor, what was cut out, and its history. No condition. -/
import Derived.Test.YtbjlkdenkmbepaaGreatDoorArgM
import Derived.Test.YtbjlkdenkmbepaaGreatDoorEd0
namespace Go.Proofs.YtbjlkdenkmbepaaGreatDoor
open Go.ChangeShapes Go.WideShapes Go.ChangeAt Go.RowKit Go.Deep
set_option linter.unusedVariables false

structure EdS where
  s : List UInt8
  x : Int
  cl : List UInt8
  pa : Int
  ms : List Mo
def RdE (w : World) (v : Value) (E : EdS) : Prop := ∃ u, v = edAgg E.s E.x E.cl u E.pa ∧ RdM0 w u E.ms ∧ E.s.length ≤ maxLen ∧ E.cl.length ≤ maxLen

theorem arr5 {cs : Array Value} (h : cs.size = 5) : ∃ a b c d e, cs = #[a, b, c, d, e] := by
  obtain ⟨l⟩ := cs
  match l, h with
  | [a, b, c, d, e], _ => exact ⟨a, b, c, d, e, rfl⟩
theorem cellsEd : Tryz.prog.cellsOf 41 = 5 := by kernel_rfl
theorem cellsHi : Tryz.prog.cellsOf 39 = 2 := by kernel_rfl
set_option maxRecDepth 100000 in
theorem rdE_arg {H : Type} {enc : TypeId × Value → H} {W : World} {base : Nat} {spare : Nat → Bool} {held : Bool} {v : Value} {d : DataW H} {ps : List MemPlace} {r : Reach} {b0 : Nat}
    (hv : Value.okWide Tryz.prog W r b0 41 v) (h : DataW.Trod enc Tryz.prog W base spare held 41 v d ps) : ∃ E, RdE W v E := by
  obtain ⟨cs, rfl, hsz⟩ := okWide_struct Tryz.underlying41 hv
  obtain ⟨c0, c1, c2, c3, c4, rfl⟩ := arr5 (hsz.trans cellsEd)
  obtain ⟨fuel, hf⟩ := h
  obtain ⟨ys, n, _, _, _, hyl, hfl⟩ := DataW.trod_struct Tryz.underlying41 hf
  have k1 : Tryz.prog.cellsOf 3 = 1 := by kernel_rfl
  have k2 : Tryz.prog.cellsOf 9 = 1 := by kernel_rfl
  have k3 : Tryz.prog.cellsOf 37 = 1 := by kernel_rfl
  match ys, hyl with
  | [y0, y1, y2, y3], _ =>
    have t0 := hfl 0 _ rfl
    have t1 := hfl 1 _ rfl
    have t2 := hfl 2 _ rfl
    have t3 := hfl 3 _ rfl
    simp [Value.cells, k1, k2, cellsHi] at t0 t1 t2 t3
    obtain ⟨⟨⟨s0⟩⟩, e0, _, w0⟩ := DataW.trod_string Tryz.underlying9 t0
    obtain ⟨a1, e1, _, _⟩ := DataW.trod_int Tryz.underlying3 t1
    obtain ⟨⟨⟨s2⟩⟩, e2, _, w2⟩ := DataW.trod_string Tryz.underlying9 t2
    obtain ⟨z0, z1, n', _, _, u0, u1⟩ := trod_struct2 Tryz.underlying39 t3
    simp [k1, k3] at u0 u1
    obtain ⟨ms, hm⟩ := rdM_arg u0
    obtain ⟨a4, e4, _, _⟩ := DataW.trod_int Tryz.underlying3 u1
    simp at e0 e1 e2 e4
    subst e0 e1 e2 e4
    exact ⟨⟨s0, a1, s2, a4, ms⟩, c3, rfl, hm, w0, w2⟩

end Go.Proofs.YtbjlkdenkmbepaaGreatDoor
