/- What is proved here: an argument that is a slice of texts reads as a list of texts. No condition. -/
import Derived.Test.YtdngdlcibaiekaaGreatDoorArg2
import Derived.Test.YtdngdlcibaiekaaGreatDoorStrT
namespace Go.Proofs.YtdngdlcibaiekaaGreatDoor
open Go.ChangeShapes Go.WideShapes Go.ChangeAt Go.RowKit Go.Deep

theorem exists_listS {α : Type} (R : Nat → α → Prop) : ∀ n, (∀ i, i < n → ∃ a, R i a) → ∃ l : List α, l.length = n ∧ ∀ i (hi : i < l.length), R i l[i]
  | 0, _ => ⟨[], rfl, fun i hi => by simp at hi⟩
  | n + 1, h => by
    obtain ⟨l, hl, hr⟩ := exists_listS R n (fun i hi => h i (by omega))
    obtain ⟨a, ha⟩ := h n (by omega)
    refine ⟨l ++ [a], by simp [hl], fun i hi => ?_⟩
    by_cases hin : i < l.length
    · rw [List.getElem_append_left hin]; exact hr i hin
    · have hi' : i = n := by simp at hi; omega
      subst hi'
      rw [List.getElem_append_right (by omega)]
      simpa [hl] using ha

set_option maxRecDepth 100000 in
theorem rdS_arg {H : Type} {enc : TypeId × Value → H} {W : World} {base : Nat} {spare : Nat → Bool} {held : Bool} {v : Value} {d : DataW H} {ps : List MemPlace} {r : Reach} {b0 : Nat}
    (hv : Value.okWide Tryz.prog W r b0 34 v) (h : DataW.Trod enc Tryz.prog W base spare held 34 v d ps) : ∃ rs, RdS W v rs := by
  obtain ⟨A, len, cap, rfl⟩ := okWide_slice Tryz.underlying34 hv
  obtain ⟨fuel, hf⟩ := h
  rcases open_slice Tryz.underlying34 hf with ⟨hcs, _⟩ | ⟨a, l, c, m, n, D, Pl, hcs, _, hl, hm, hmm, _, hi⟩
  · simp [Value.cells] at hcs
    obtain ⟨rfl, rfl, rfl⟩ := hcs
    exact ⟨[], ⟨rfl, Nat.zero_le _, none, 0, rfl, Nat.le_refl _, fun h => absurd h (by simp)⟩, fun b hb => by cases hb⟩
  · simp [Value.cells] at hcs
    obtain ⟨rfl, rfl, rfl⟩ := hcs
    have hlm : len ≤ m := by rw [hmm]; split <;> omega
    have hce : Tryz.prog.cellsOf 9 = 1 := by kernel_rfl
    obtain ⟨bs, hbl, hbs⟩ := exists_listS (fun i (b : List UInt8) => W.cell? (a.add (i * 1 + 0)) = some (S b) ∧ b.length ≤ maxLen) len (fun i hil => by
      obtain ⟨cs', hc, ht'⟩ := hi i (by omega)
      rw [hce] at hc
      obtain ⟨⟨⟨s0⟩⟩, r0, _, w0⟩ := DataW.trod_string Tryz.underlying9 ht'
      obtain ⟨_, hcl, hat⟩ := World.cells?_some hc
      have h0 := hat 0 (by omega)
      subst r0
      rw [Go.Deep.add_add] at h0
      exact ⟨s0, by simpa using h0, w0⟩)
    refine ⟨bs, rdL_of strC_len (by omega) hbl hl hm ?_, fun b hb => ?_⟩
    · intro k hk j u hu
      match j, hu with
      | 0, hu => simp [strC] at hu; subst hu; exact (hbs k hk).1
      | j + 1, hu => simp [strC] at hu
    · obtain ⟨i, hi', rfl⟩ := List.getElem_of_mem hb
      exact (hbs i hi').2

end Go.Proofs.YtdngdlcibaiekaaGreatDoor
