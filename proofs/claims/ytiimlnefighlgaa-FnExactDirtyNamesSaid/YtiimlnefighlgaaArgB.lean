/- What is proved here: an argument that is a slice of files reads as a list of files. No condition. -/
import Derived.Test.YtiimlnefighlgaaArg2
import Derived.Test.YtiimlnefighlgaaBuf1
namespace Go.Proofs.Ytiimlnefighlgaa
open Go.ChangeShapes Go.WideShapes Go.ChangeAt Go.RowKit Go.Deep

theorem exists_list {α : Type} (R : Nat → α → Prop) : ∀ n, (∀ i, i < n → ∃ a, R i a) → ∃ l : List α, l.length = n ∧ ∀ i (hi : i < l.length), R i l[i]
  | 0, _ => ⟨[], rfl, fun i hi => by simp at hi⟩
  | n + 1, h => by
    obtain ⟨l, hl, hr⟩ := exists_list R n (fun i hi => h i (by omega))
    obtain ⟨a, ha⟩ := h n (by omega)
    refine ⟨l ++ [a], by simp [hl], fun i hi => ?_⟩
    by_cases hin : i < l.length
    · rw [List.getElem_append_left hin]; exact hr i hin
    · have hi' : i = n := by simp at hi; omega
      subst hi'
      rw [List.getElem_append_right (by omega)]
      simpa [hl] using ha

set_option maxRecDepth 100000 in
theorem rdB_arg {H : Type} {enc : TypeId × Value → H} {W : World} {base : Nat} {spare : Nat → Bool} {held : Bool} {v : Value} {d : DataW H} {ps : List MemPlace} {r : Reach} {b0 : Nat}
    (hv : Value.okWide Try.prog W r b0 35 v) (h : DataW.Trod enc Try.prog W base spare held 35 v d ps) : ∃ bs, RdB W v bs := by
  obtain ⟨A, len, cap, rfl⟩ := okWide_slice Try.underlying35 hv
  obtain ⟨fuel, hf⟩ := h
  rcases open_slice_fields Try.underlying35 Try.underlying69 (by kernel_rfl) (by kernel_rfl) hf with ⟨hcs, _⟩ | ⟨a, l, c, m, D, Pl, hcs, _, hl, hm, hmm, _, hi⟩
  · simp [Value.cells] at hcs
    obtain ⟨rfl, rfl, rfl⟩ := hcs
    exact ⟨[], ⟨rfl, Nat.zero_le _, none, 0, rfl, Nat.le_refl _, fun h => absurd h (by simp)⟩, fun b hb => by cases hb⟩
  · simp [Value.cells] at hcs
    obtain ⟨rfl, rfl, rfl⟩ := hcs
    have hlm : len ≤ m := by rw [hmm]; split <;> omega
    obtain ⟨bs, hbl, hbs⟩ := exists_list (fun i (b : Bf) => W.cell? (a.add (i * 3 + 0)) = some (S b.name) ∧ W.cell? (a.add (i * 3 + 1)) = some (S b.body) ∧ W.cell? (a.add (i * 3 + 2)) = some (S b.saved) ∧ b.name.length ≤ maxLen ∧ b.body.length ≤ maxLen ∧ b.saved.length ≤ maxLen) len (fun i hil => by
      obtain ⟨ys, n, _, _, _, hfl⟩ := hi i (by omega)
      obtain ⟨v0, y0, e0, _, t0⟩ := hfl 0 _ rfl
      obtain ⟨v1, y1, e1, _, t1⟩ := hfl 1 _ rfl
      obtain ⟨v2, y2, e2, _, t2⟩ := hfl 2 _ rfl
      obtain ⟨⟨⟨s0⟩⟩, r0, _, w0⟩ := DataW.trod_string Try.underlying9 t0
      obtain ⟨⟨⟨s1⟩⟩, r1, _, w1⟩ := DataW.trod_string Try.underlying9 t1
      obtain ⟨⟨⟨s2⟩⟩, r2, _, w2⟩ := DataW.trod_string Try.underlying9 t2
      simp at r0 r1 r2
      subst r0 r1 r2
      exact ⟨⟨s0, s1, s2⟩, e0, e1, e2, w0, w1, w2⟩)
    refine ⟨bs, rdL_of bfC_len (by omega) hbl hl hm ?_, fun b hb => ?_⟩
    · intro k hk j u hu
      obtain ⟨q0, q1, q2, _⟩ := hbs k hk
      match j, hu with
      | 0, hu => simp [bfC] at hu; subst hu; exact q0
      | 1, hu => simp [bfC] at hu; subst hu; exact q1
      | 2, hu => simp [bfC] at hu; subst hu; exact q2
      | j + 3, hu => simp [bfC] at hu
    · obtain ⟨i, hi', rfl⟩ := List.getElem_of_mem hb
      exact (hbs i hi').2.2.2

end Go.Proofs.Ytiimlnefighlgaa
