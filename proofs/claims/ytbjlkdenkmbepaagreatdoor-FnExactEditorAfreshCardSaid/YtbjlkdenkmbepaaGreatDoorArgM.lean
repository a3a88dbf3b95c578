/- What is proved here: an argument that is a slice of states reads as a list of states. No condition. -/
import Derived.Test.YtbjlkdenkmbepaaGreatDoorArg2
import Derived.Test.YtbjlkdenkmbepaaGreatDoorHistS
import Derived.Deep.Strs
namespace Go.Proofs.YtbjlkdenkmbepaaGreatDoor
open Go.ChangeShapes Go.WideShapes Go.ChangeAt Go.RowKit Go.Deep
set_option linter.unusedVariables false

theorem exists_listM {α : Type} (R : Nat → α → Prop) : ∀ n, (∀ i, i < n → ∃ a, R i a) → ∃ l : List α, l.length = n ∧ ∀ i (hi : i < l.length), R i l[i]
  | 0, _ => ⟨[], rfl, fun i hi => by simp at hi⟩
  | n + 1, h => by
    obtain ⟨l, hl, hr⟩ := exists_listM R n (fun i hi => h i (by omega))
    obtain ⟨a, ha⟩ := h n (by omega)
    refine ⟨l ++ [a], by simp [hl], fun i hi => ?_⟩
    by_cases hin : i < l.length
    · rw [List.getElem_append_left hin]; exact hr i hin
    · have hi' : i = n := by simp at hi; omega
      subst hi'
      rw [List.getElem_append_right (by omega)]
      simpa [hl] using ha

section
variable {H : Type} {enc : TypeId × Value → H} {W : World} {base : Nat} {spare : Nat → Bool} {held : Bool}
theorem cellsCh : Tryz.prog.cellsOf 137 = 3 := by kernel_rfl
theorem cellsMo : Tryz.prog.cellsOf 139 = 7 := by kernel_rfl
set_option maxRecDepth 100000 in
theorem chArg {fuel : Nat} {u0 u1 u2 : Value} {x : DataW H × List MemPlace} (h : DataW.trod enc Tryz.prog W base spare held fuel 137 [u0, u1, u2] = some x) : ∃ c : Ch, [u0, u1, u2] = chC c ∧ c.p.length ≤ maxLen := by
  obtain ⟨y0, y1, y2, n, _, _, t0, t1, t2⟩ := trod_struct3 Tryz.underlying137 h
  obtain ⟨a0, e0, _, _⟩ := DataW.trod_int Tryz.underlying3 t0
  obtain ⟨a1, e1, _, _⟩ := DataW.trod_int Tryz.underlying3 t1
  obtain ⟨⟨⟨s2⟩⟩, e2, _, w2⟩ := DataW.trod_string Tryz.underlying9 t2
  have c1 : Tryz.prog.cellsOf 3 = 1 := by kernel_rfl
  have c2 : Tryz.prog.cellsOf 9 = 1 := by kernel_rfl
  simp [c1] at e0
  simp [c1] at e1
  simp [c2] at e2
  subst e0 e1 e2
  exact ⟨⟨a0, a1, s2⟩, rfl, w2⟩
set_option maxRecDepth 100000 in
theorem moArg {fuel : Nat} {cs : List Value} {x : DataW H × List MemPlace} (h : DataW.trod enc Tryz.prog W base spare held fuel 139 cs = some x) : ∃ m : Mo, cs = moC m ∧ m.f.p.length ≤ maxLen ∧ m.b.p.length ≤ maxLen := by
  obtain ⟨y0, y1, y2, n, _, hl, t0, t1, t2⟩ := trod_struct3 Tryz.underlying139 h
  rw [cellsMo] at hl
  obtain ⟨u0, u1, u2, u3, u4, u5, u6, rfl⟩ : ∃ u0 u1 u2 u3 u4 u5 u6, cs = [u0, u1, u2, u3, u4, u5, u6] := by
    match cs, hl with
    | [u0, u1, u2, u3, u4, u5, u6], _ => exact ⟨u0, u1, u2, u3, u4, u5, u6, rfl⟩
  rw [cellsCh] at t1 t2
  obtain ⟨a0, e0, _, _⟩ := DataW.trod_int Tryz.underlying3 t0
  have c1 : Tryz.prog.cellsOf 3 = 1 := by kernel_rfl
  simp [c1] at e0
  obtain ⟨f, ef, wf⟩ := chArg t1
  obtain ⟨b, eb, wb⟩ := chArg t2
  simp [chC] at ef eb
  obtain ⟨rfl, rfl, rfl⟩ := ef
  obtain ⟨rfl, rfl, rfl⟩ := eb
  subst e0
  exact ⟨⟨a0, f, b⟩, rfl, wf, wb⟩

set_option maxRecDepth 100000 in
theorem rdM_arg {fuel : Nat} {c0 : Value} {y : DataW H × List MemPlace} (h : DataW.trod enc Tryz.prog W base spare held fuel 37 [c0] = some y) : ∃ ms, RdM0 W c0 ms := by
  rcases open_slice Tryz.underlying37 h with ⟨hcs, _⟩ | ⟨a, len, cap, m, n, D, Pl, hcs, _, hl, hm, hmm, _, hi⟩
  · simp at hcs
    subst hcs
    exact ⟨[], ⟨rfl, Nat.zero_le _, none, 0, rfl, Nat.le_refl _, fun h => absurd h (by simp)⟩, fun b hb => by cases hb⟩
  · simp at hcs
    subst hcs
    have hlm : len ≤ m := by rw [hmm]; split <;> omega
    rw [cellsMo] at hi
    obtain ⟨ms, hml, hms⟩ := exists_listM (fun i (m : Mo) => (∀ j u, (moC m)[j]? = some u → W.cell? (a.add (i * 7 + j)) = some u) ∧ m.f.p.length ≤ maxLen ∧ m.b.p.length ≤ maxLen) len (fun i hil => by
      obtain ⟨cs', hc, ht⟩ := hi i (by omega)
      obtain ⟨m, rfl, w1, w2⟩ := moArg ht
      obtain ⟨_, hcl, hat⟩ := World.cells?_some hc
      refine ⟨m, fun j u hu => ?_, w1, w2⟩
      have hj := (List.getElem?_eq_some_iff.1 hu).1
      rw [moC_len] at hj
      have := hat j hj
      rw [← Go.Deep.add_add, this, hu])
    exact ⟨ms, rdL_of moC_len (by omega) hml hl hm (fun k hk j u hu => (hms k hk).1 j u hu), fun b hb => by obtain ⟨i, hi', rfl⟩ := List.getElem_of_mem hb; exact (hms i hi').2⟩
end

end Go.Proofs.YtbjlkdenkmbepaaGreatDoor
