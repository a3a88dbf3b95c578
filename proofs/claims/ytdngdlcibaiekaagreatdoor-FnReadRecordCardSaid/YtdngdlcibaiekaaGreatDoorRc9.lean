/- What is proved here: plain facts: which change the parts of a text lead to. No condition. -/
import Derived.Test.YtdngdlcibaiekaaGreatDoorRc5
import Derived.Test.YtdngdlcibaiekaaGreatDoorRc6
namespace Go.Proofs.YtdngdlcibaiekaaGreatDoor
open Go.RowKit

theorem dgs_len (s : List UInt8) (k : Nat) : (dgs s k).length ≤ 4 ∧ (dgs s k).length ≤ s.length - k := by
  unfold dgs
  have h := (List.takeWhile_sublist (l := (s.drop k).take 4) dgB).length_le
  rw [List.length_take, List.length_drop] at h
  omega
theorem vAt_le {s : List UInt8} {k : Nat} (h : k ≤ s.length) : k ≤ (vAt s k).2 ∧ (vAt s k).2 ≤ s.length := by
  have hd := dgs_len s k
  unfold vAt
  split
  · simp only; omega
  · rename_i h2
    have h3 : ¬ s[k + (dgs s k).length]? ≠ some 32 := fun h3 => h2 (.inr h3)
    rw [ne_eq, Decidable.not_not] at h3
    have := (List.getElem?_eq_some_iff.1 h3).1
    simp only
    omega
theorem vAt_val (s : List UInt8) (k : Nat) : -1 ≤ (vAt s k).1 ∧ (vAt s k).1 < 10000 := by
  unfold vAt
  split
  · simp
  · have hv : vl 0 (dgs s k) < 10000 := by
      have hd := dgs_len s k
      have ha : ∀ c ∈ dgs s k, dgB c = true := fun c hc => by
        unfold dgs at hc
        have := List.all_eq_true.1 (List.all_takeWhile (l := (s.drop k).take 4) (p := dgB)) c hc
        exact this
      have h := vl_lt _ 0 ha
      have : 10 ^ (dgs s k).length ≤ 10 ^ 4 := Nat.pow_le_pow_right (by omega) hd.1
      omega
    simp only
    omega
/-- the change that a text is the record of, or the zero one. -/
noncomputable def rdC (s : List UInt8) : Ch := (rdM s).getD c0
noncomputable def rdB (s : List UInt8) : Bool := (rdM s).isSome
theorem rd_no {s : List UInt8} (h : rdM s = none) : rdC s = c0 ∧ rdB s = false := by simp [rdC, rdB, h]
theorem rd_yes {s : List UInt8} {x : Ch} (h : rdM s = some x) : rdC s = x ∧ rdB s = true := by simp [rdC, rdB, h]
theorem not_rec {s : List UInt8} (h : ∀ a b p, IsRec s a b p → False) : rdM s = none := rdM_none fun ⟨a, b, p, k⟩ => h a b p k
theorem rec_no1 {s : List UInt8} (h : (vAt s 0).1 < 0 ∨ (vAt s (vAt s 0).2).1 < 0 ∨ (lsp s : Int) - 1 < (vAt s (vAt s 0).2).2) : rdM s = none := by
  refine not_rec fun a b p k => ?_
  obtain ⟨h1, h2, h3, _⟩ := k.parts
  rw [h1] at h
  simp only at h
  rw [h2] at h
  simp only at h
  rw [h3] at h
  omega
theorem rec_mid {s : List UInt8} (h : recT (vAt s 0).1 (vAt s (vAt s 0).2).1 (uneA s (lsp s - 1) (vAt s (vAt s 0).2).2) ≠ s ∨ s = []) : rdM s = none := by
  refine not_rec fun a b p k => ?_
  obtain ⟨h1, h2, h3, h4⟩ := k.parts
  obtain ⟨t1, t2⟩ := k.text
  rcases h with h | h
  · refine h ?_
    rw [h1]
    simp only
    rw [h2]
    simp only
    unfold uneA
    rw [h3, Nat.add_sub_cancel, h4, une_esc]
    exact t1
  · exact t2 h
theorem rec_yes {s : List UInt8} {a b : Int} {p : List UInt8} (h : recT a b p = s) (hs : s ≠ []) : rdM s = some ⟨a, b, p⟩ := by
  obtain ⟨h1, h2, h3⟩ := IsRec.of h hs
  have := rdM_some h1
  rwa [Int.toNat_of_nonneg h2, Int.toNat_of_nonneg h3] at this
theorem une_len : ∀ l : List UInt8, (une l).length ≤ l.length
  | [] => Nat.le_refl _
  | [_] => Nat.le_refl _
  | c :: d :: l => by
    rw [une]
    split
    · have := une_len l
      simp only [List.length_cons]; omega
    · have := une_len (d :: l)
      simp only [List.length_cons] at this ⊢; omega
theorem uneA_len (s : List UInt8) (e k : Nat) : (uneA s e k).length ≤ s.length := by
  unfold uneA
  have := une_len ((s.take e).drop k)
  rw [List.length_drop, List.length_take] at this
  omega

end Go.Proofs.YtdngdlcibaiekaaGreatDoor
