/- What is proved here: plain facts on the lines of a text as strings.Split gives them, and on the rows in which a text is shown. No condition. -/
import Derived.Test.YtcjgllbhmghkeaaDoorLin0
import Derived.Lib.Split
namespace Go.Proofs.YtcjgllbhmghkeaaDoor
open Go.RowKit
set_option linter.unusedVariables false

/-- the text of line q. -/
def lnT (s : List UInt8) (q : Nat) : List UInt8 := (s.take (lend s q)).drop (lst s q)
theorem lnT_len (s : List UInt8) (q : Nat) (h : q ≤ nl s) : (lnT s q).length = lend s q - lst s q := by
  have := lend_le s q h
  unfold lnT
  rw [List.length_drop, List.length_take]
  omega
theorem nl_drop (s : List UInt8) (p : Nat) : nl (s.take p) + nl (s.drop p) = nl s := by
  unfold nl
  rw [← List.count_append, List.take_append_drop]
theorem run10_free : ∀ s : List UInt8, nl (s.take (run10 s)) = 0
  | [] => rfl
  | b :: l => by
    by_cases hb : b = 10
    · subst hb
      simp [run10, nl]
    · have e : run10 (b :: l) = run10 l + 1 := by
        unfold run10
        rw [List.takeWhile_cons]
        simp [hb]
      have ih := run10_free l
      unfold nl at ih ⊢
      rw [e, List.take_succ_cons, List.count_cons_of_ne (by simpa using hb)]
      exact ih
theorem run10_all : ∀ s : List UInt8, (10 : UInt8) ∉ s → run10 s = s.length
  | [], _ => rfl
  | b :: l, h => by
    simp only [List.mem_cons, not_or] at h
    have ih := run10_all l h.2
    unfold run10 at ih ⊢
    rw [List.takeWhile_cons]
    have hb : b ≠ 10 := fun e => h.1 e.symm
    simp [hb, ih]
theorem run10_lt (s : List UInt8) (h : 0 < nl s) : ∃ h : run10 s < s.length, s[run10 s] = 10 := by
  unfold run10
  induction s with
  | nil => simp [nl] at h
  | cons b l ih =>
    by_cases hb : b = 10
    · subst hb
      exact ⟨by simp, by simp⟩
    · have h2 : 0 < nl l := by
        unfold nl at h ⊢
        rw [List.count_cons_of_ne (by simpa using hb)] at h
        exact h
      obtain ⟨h3, h4⟩ := ih h2
      have e : ((b :: l).takeWhile fun c => c != 10) = b :: (l.takeWhile fun c => c != 10) := by rw [List.takeWhile_cons]; simp [hb]
      simp only [e, List.length_cons]
      exact ⟨by omega, by simpa using h4⟩
theorem lst_next (s : List UInt8) (q : Nat) (h : q < nl s) : lend s q < s.length ∧ lst s (q + 1) = lend s q + 1 := by
  obtain ⟨h1, h2, _⟩ := lst_spec s q (by omega)
  have hd := nl_drop s (lst s q)
  have hq : nl (s.take (lst s q)) = q := h2.1
  obtain ⟨h3, h4⟩ := run10_lt (s.drop (lst s q)) (by omega)
  rw [List.length_drop] at h3
  rw [List.getElem_drop] at h4
  have hlen : lend s q < s.length := by unfold lend; omega
  refine ⟨hlen, lst_eq (by omega) ⟨?_, .inr ⟨by omega, by omega, ?_⟩⟩⟩
  · have ha : s.take (lend s q + 1) = s.take (lst s q) ++ ((s.drop (lst s q)).take (run10 (s.drop (lst s q))) ++ [s[lend s q]]) := by
      rw [← List.append_assoc, List.take_succ_eq_append_getElem hlen]
      congr 1
      unfold lend
      rw [List.take_add]
    have hf := run10_free (s.drop (lst s q))
    have h4' : s[lend s q] = 10 := h4
    rw [ha]
    unfold nl at hf hq ⊢
    rw [List.count_append, List.count_append, hf, hq, h4']
    simp
  · exact h4
theorem lend_last (s : List UInt8) : lend s (nl s) = s.length := by
  obtain ⟨h1, h2, _⟩ := lst_spec s (nl s) (Nat.le_refl _)
  have hd := nl_drop s (lst s (nl s))
  have hq : nl (s.take (lst s (nl s))) = nl s := h2.1
  have h0 : nl (s.drop (lst s (nl s))) = 0 := by omega
  have e := run10_all _ (List.count_eq_zero.1 h0)
  unfold lend
  rw [e, List.length_drop]
  omega
theorem index10 (s : List UInt8) : Lib.index s [10] = if run10 s < s.length then (run10 s : Int) else -1 := by
  rw [← run10_index]
  induction s with
  | nil => rfl
  | cons b l ih =>
    rw [Lib.index, Lib.indexByte, ih]
    have h : [(10 : UInt8)].isPrefixOf (b :: l) = (b == 10) := by simp [List.isPrefixOf, Bool.beq_comm]
    rw [h]
theorem split_from (s : List UInt8) : ∀ (d q : Nat), q + d = nl s → Lib.splitK [10] 0 d (s.drop (lst s q)) = (List.range' q (d + 1)).map (lnT s)
  | 0, q, h => by
    have : q = nl s := by omega
    subst this
    show [s.drop (lst s (nl s))] = [lnT s (nl s)]
    unfold lnT
    rw [lend_last, List.take_length]
  | d + 1, q, h => by
    obtain ⟨h1, h2⟩ := lst_next s q (by omega)
    have hr : run10 (s.drop (lst s q)) < (s.drop (lst s q)).length := by
      rw [List.length_drop]
      unfold lend at h1
      omega
    have hi := index10 (s.drop (lst s q))
    rw [if_pos hr] at hi
    rw [Lib.splitK, if_neg (by rw [hi]; simp), hi]
    rw [List.range'_succ, List.map_cons]
    have hl : run10 (s.drop (lst s q)) + lst s q = lend s q := by unfold lend; omega
    congr 1
    · unfold lnT
      rw [← hl, List.take_drop, Nat.add_comm]
      simp [Nat.add_comm]
    · rw [List.drop_drop, show lst s q + ((run10 (s.drop (lst s q)) : Int).toNat + [(10 : UInt8)].length) = lst s (q + 1) by rw [h2]; unfold lend; simp; omega]
      exact split_from s d (q + 1) (by omega)

end Go.Proofs.YtcjgllbhmghkeaaDoor
