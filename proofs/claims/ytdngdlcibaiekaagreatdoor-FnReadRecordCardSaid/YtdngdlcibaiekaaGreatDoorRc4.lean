/- What is proved here: plain facts on records that are played. No condition. -/
import Derived.Test.YtdngdlcibaiekaaGreatDoorRc3
import Derived.Test.YtdngdlcibaiekaaGreatDoorHist0
namespace Go.Proofs.YtdngdlcibaiekaaGreatDoor
open Go.RowKit

open Classical in
/-- the change of which a text is the record, if there is one. -/
noncomputable def rdM (s : List UInt8) : Option Ch := if h : ∃ x : Nat × Nat × List UInt8, IsRec s x.1 x.2.1 x.2.2 then some ⟨h.choose.1, h.choose.2.1, h.choose.2.2⟩ else none
theorem rdM_some {s : List UInt8} {a b : Nat} {p : List UInt8} (h : IsRec s a b p) : rdM s = some ⟨a, b, p⟩ := by
  unfold rdM
  have hx : ∃ x : Nat × Nat × List UInt8, IsRec s x.1 x.2.1 x.2.2 := ⟨(a, b, p), h⟩
  rw [dif_pos hx]
  obtain ⟨h1, h2, h3⟩ := hx.choose_spec.uniq h
  rw [h1, h2, h3]
theorem rdM_none {s : List UInt8} (h : ¬ ∃ a b p, IsRec s a b p) : rdM s = none := by
  unfold rdM
  rw [dif_neg]
  rintro ⟨x, hx⟩
  exact h ⟨_, _, _, hx⟩
theorem rdM_rec {s : List UInt8} {x : Ch} (h : rdM s = some x) : ∃ a b : Nat, ∃ p, x = ⟨a, b, p⟩ ∧ IsRec s a b p := by
  unfold rdM at h
  split at h
  · rename_i hx
    injection h with h
    exact ⟨_, _, _, h.symm, hx.choose_spec⟩
  · cases h
/-- the text behind the records, and how many were played. -/
noncomputable def pl : List UInt8 → List (List UInt8) → List UInt8 × Nat
  | s, [] => (s, 0)
  | s, r :: rs => match rdM r with
    | none => (s, 0)
    | some x => if okF s x = true then ((pl (apF s x) rs).1, (pl (apF s x) rs).2 + 1) else (s, 0)
theorem pl_none {s r : List UInt8} (rs : List (List UInt8)) (h : rdM r = none) : pl s (r :: rs) = (s, 0) := by
  rw [pl, h]
theorem pl_bad {s r : List UInt8} {x : Ch} (rs : List (List UInt8)) (h : rdM r = some x) (hk : okF s x = false) : pl s (r :: rs) = (s, 0) := by
  rw [pl, h]
  simp [hk]
theorem pl_ok {s r : List UInt8} {x : Ch} (rs : List (List UInt8)) (h : rdM r = some x) (hk : okF s x = true) : pl s (r :: rs) = ((pl (apF s x) rs).1, (pl (apF s x) rs).2 + 1) := by
  rw [pl, h]
  simp [hk]
theorem pl_cases (s r : List UInt8) : (rdM r = none) ∨ (∃ x, rdM r = some x ∧ okF s x = false) ∨ ∃ x, rdM r = some x ∧ okF s x = true := by
  cases h : rdM r with
  | none => exact .inl rfl
  | some x =>
    cases hk : okF s x with
    | false => exact .inr (.inl ⟨x, rfl, hk⟩)
    | true => exact .inr (.inr ⟨x, rfl, hk⟩)
theorem pl_le : ∀ (l : List (List UInt8)) (s : List UInt8), (pl s l).2 ≤ l.length
  | [], s => Nat.le_refl _
  | r :: l, s => by
    rcases pl_cases s r with h | ⟨x, h, hk⟩ | ⟨x, h, hk⟩
    · rw [pl_none l h]; exact Nat.zero_le _
    · rw [pl_bad l h hk]; exact Nat.zero_le _
    · rw [pl_ok l h hk]
      have := pl_le l (apF s x)
      simp only [List.length_cons]
      omega
theorem pl_tv : ∀ (l : List (List UInt8)) (s : List UInt8), tv s = true → tv (pl s l).1 = true
  | [], s, h => h
  | r :: l, s, h => by
    rcases pl_cases s r with h1 | ⟨x, h1, hk⟩ | ⟨x, h1, hk⟩
    · rw [pl_none l h1]; exact h
    · rw [pl_bad l h1 hk]; exact h
    · rw [pl_ok l h1 hk]
      exact pl_tv l _ (okF_tv hk).2
theorem pl_all : ∀ (l m : List (List UInt8)) (s : List UInt8), (pl s l).2 = l.length → pl s (l ++ m) = ((pl (pl s l).1 m).1, l.length + (pl (pl s l).1 m).2)
  | [], m, s, _ => by simp [pl]
  | r :: l, m, s, h => by
    rcases pl_cases s r with h1 | ⟨x, h1, hk⟩ | ⟨x, h1, hk⟩
    · rw [pl_none l h1] at h; simp at h
    · rw [pl_bad l h1 hk] at h; simp at h
    · rw [pl_ok l h1 hk] at h ⊢
      simp only [List.length_cons, Nat.add_right_cancel_iff] at h
      rw [List.cons_append, pl_ok _ h1 hk, pl_all l m _ h]
      simp only [List.length_cons, Prod.mk.injEq, true_and]
      omega
theorem pl_stop : ∀ (l m : List (List UInt8)) (s : List UInt8), (pl s l).2 < l.length → pl s (l ++ m) = pl s l
  | [], m, s, h => by simp at h
  | r :: l, m, s, h => by
    rcases pl_cases s r with h1 | ⟨x, h1, hk⟩ | ⟨x, h1, hk⟩
    · rw [List.cons_append, pl_none _ h1, pl_none _ h1]
    · rw [List.cons_append, pl_bad _ h1 hk, pl_bad _ h1 hk]
    · rw [pl_ok l h1 hk] at h
      simp only [List.length_cons, Nat.add_lt_add_iff_right] at h
      rw [List.cons_append, pl_ok _ h1 hk, pl_ok _ h1 hk, pl_stop l m _ h]

end Go.Proofs.YtdngdlcibaiekaaGreatDoor
