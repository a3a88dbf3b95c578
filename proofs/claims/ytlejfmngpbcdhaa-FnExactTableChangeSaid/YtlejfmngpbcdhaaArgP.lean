/- What is proved here: an argument that is a slice of pieces reads as a list of pieces. No condition. -/
import Derived.Test.YtlejfmngpbcdhaaArg2
import Derived.Test.YtlejfmngpbcdhaaTab1
import Derived.Deep.Strs
namespace Go.Proofs.Ytlejfmngpbcdhaa
open Go.ChangeShapes Go.WideShapes Go.ChangeAt Go.RowKit Go.Deep
set_option linter.unusedVariables false

theorem exists_listP {α : Type} (R : Nat → α → Prop) : ∀ n, (∀ i, i < n → ∃ a, R i a) → ∃ l : List α, l.length = n ∧ ∀ i (hi : i < l.length), R i l[i]
  | 0, _ => ⟨[], rfl, fun i hi => by simp at hi⟩
  | n + 1, h => by
    obtain ⟨l, hl, hr⟩ := exists_listP R n (fun i hi => h i (by omega))
    obtain ⟨a, ha⟩ := h n (by omega)
    refine ⟨l ++ [a], by simp [hl], fun i hi => ?_⟩
    by_cases hin : i < l.length
    · rw [List.getElem_append_left hin]; exact hr i hin
    · have hi' : i = n := by simp at hi; omega
      subst hi'
      rw [List.getElem_append_right (by omega)]
      simpa [hl] using ha

section
variable {H : Type} {enc : TypeId × Value → H} {W : World} {base : Nat} {spare : Nat → Bool} {held : Bool}
theorem cellsPc : Try.prog.cellsOf 114 = 3 := by kernel_rfl
set_option maxRecDepth 100000 in
theorem pcArg {fuel : Nat} {cs : List Value} {x : DataW H × List MemPlace} (h : DataW.trod enc Try.prog W base spare held fuel 114 cs = some x) : ∃ p : Pc, cs = pcC p := by
  obtain ⟨y0, y1, y2, n, _, hl, t0, t1, t2⟩ := trod_struct3 Try.underlying114 h
  rw [cellsPc] at hl
  obtain ⟨u0, u1, u2, rfl⟩ : ∃ u0 u1 u2, cs = [u0, u1, u2] := by
    match cs, hl with
    | [u0, u1, u2], _ => exact ⟨u0, u1, u2, rfl⟩
  obtain ⟨a0, e0, _⟩ := DataW.trod_bool Try.underlying4 t0
  obtain ⟨a1, e1, _, _⟩ := DataW.trod_int Try.underlying3 t1
  obtain ⟨a2, e2, _, _⟩ := DataW.trod_int Try.underlying3 t2
  have c1 : Try.prog.cellsOf 3 = 1 := by kernel_rfl
  have c2 : Try.prog.cellsOf 4 = 1 := by kernel_rfl
  simp [c2] at e0
  simp [c1] at e1
  simp [c1] at e2
  subst e0 e1 e2
  exact ⟨⟨a0, a1, a2⟩, rfl⟩

set_option maxRecDepth 100000 in
theorem rdP_arg {fuel : Nat} {c0 : Value} {y : DataW H × List MemPlace} (h : DataW.trod enc Try.prog W base spare held fuel 39 [c0] = some y) : ∃ ps, RdP W c0 ps := by
  rcases open_slice Try.underlying39 h with ⟨hcs, _⟩ | ⟨a, len, cap, m, n, D, Pl, hcs, _, hl, hm, hmm, _, hi⟩
  · simp at hcs
    subst hcs
    exact ⟨[], rfl, Nat.zero_le _, none, 0, rfl, Nat.le_refl _, fun h => absurd h (by simp)⟩
  · simp at hcs
    subst hcs
    have hlm : len ≤ m := by rw [hmm]; split <;> omega
    rw [cellsPc] at hi
    obtain ⟨ps, hml, hms⟩ := exists_listP (fun i (p : Pc) => ∀ j u, (pcC p)[j]? = some u → W.cell? (a.add (i * 3 + j)) = some u) len (fun i hil => by
      obtain ⟨cs', hc, ht⟩ := hi i (by omega)
      obtain ⟨p, rfl⟩ := pcArg ht
      obtain ⟨_, hcl, hat⟩ := World.cells?_some hc
      refine ⟨p, fun j u hu => ?_⟩
      have hj := (List.getElem?_eq_some_iff.1 hu).1
      rw [pcC_len] at hj
      have := hat j hj
      rw [← Go.Deep.add_add, this, hu])
    exact ⟨ps, rdL_of pcC_len (by omega) hml hl hm (fun k hk j u hu => hms k hk j u hu)⟩
end

end Go.Proofs.Ytlejfmngpbcdhaa
