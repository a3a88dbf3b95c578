/- What is proved here: plain facts on the parts of a record's text. No condition. -/
import Derived.Test.YtdngdlcibaiekaaGreatDoorRc0
import Derived.Test.YtdngdlcibaiekaaGreatDoorLsp
namespace Go.Proofs.YtdngdlcibaiekaaGreatDoor
open Go.RowKit

def dgB (c : UInt8) : Bool := decide (48 ≤ c.toNat) && decide (c.toNat ≤ 57)
/-- the digits at a place, four at most. -/
def dgs (s : List UInt8) (k : Nat) : List UInt8 := ((s.drop k).take 4).takeWhile dgB
/-- the number at a place and the place behind the space behind it. -/
def vAt (s : List UInt8) (k : Nat) : Int × Nat :=
  if (dgs s k).length = 0 ∨ s[k + (dgs s k).length]? ≠ some 32 then (-1, k + (dgs s k).length) else ((vl 0 (dgs s k) : Nat), k + (dgs s k).length + 1)
theorem dgs_nm {a : Nat} (ha : a < 1000) (x r : List UInt8) : dgs (x ++ (nm a ++ 32 :: r)) x.length = nm a := by
  have hl := nm_len ha
  unfold dgs
  rw [List.drop_left]
  obtain ⟨j, hj⟩ : ∃ j, 4 - (nm a).length = j + 1 := ⟨3 - (nm a).length, by omega⟩
  rw [List.take_append, List.take_of_length_le (by omega), hj, List.take_succ_cons, List.takeWhile_append_of_pos]
  · rw [List.takeWhile_cons_of_neg (by decide), List.append_nil]
  · intro c hc
    have := nm_digits a c hc
    simp [dgB]
    omega
theorem vAt_nm {a : Nat} (ha : a < 1000) (x r : List UInt8) : vAt (x ++ (nm a ++ 32 :: r)) x.length = ((a : Int), x.length + (nm a).length + 1) := by
  have hp := nm_pos a
  unfold vAt
  rw [dgs_nm ha, vl_nm, if_neg]
  rw [← List.append_assoc, List.getElem?_append_right (by rw [List.length_append]; omega), List.length_append, Nat.sub_self]
  simp
  intro h
  rw [h] at hp
  simp at hp
theorem no32 (n : Nat) : ∀ c ∈ nm n, c ≠ 32 := by
  intro c hc e
  have := nm_digits n c hc
  rw [e] at this
  simp at this
theorem lsp_tail (x : List UInt8) : ∀ (y : List UInt8), (∀ c ∈ y, c ≠ 32) → lsp (x ++ 32 :: y) = x.length + 1 := by
  intro y hy
  unfold lsp
  rw [List.reverse_append, List.reverse_cons, List.append_assoc, List.dropWhile_append_of_pos]
  · simp
  · intro c hc
    simpa using hy c (by simpa using hc)
/-- the change of which a text is the record. -/
def IsRec (s : List UInt8) (a b : Nat) (p : List UInt8) : Prop := a ≤ 120 ∧ b ≤ 120 ∧ tv p = true ∧ recX a b p = s
theorem IsRec.parts {s : List UInt8} {a b : Nat} {p : List UInt8} (h : IsRec s a b p) :
    vAt s 0 = ((a : Int), (nm a).length + 1) ∧ vAt s ((nm a).length + 1) = ((b : Int), (nm a).length + 1 + (nm b).length + 1) ∧ lsp s = (nm a).length + 1 + (nm b).length + 1 + (esc p).length + 1 ∧
    ((s.take ((nm a).length + 1 + (nm b).length + 1 + (esc p).length)).drop ((nm a).length + 1 + (nm b).length + 1)) = esc p := by
  obtain ⟨h1, h2, _, rfl⟩ := h
  have e : recX a b p = nm a ++ 32 :: (nm b ++ 32 :: (esc p ++ 32 :: nm (smS 0 (recB a b p)))) := by simp [recX, recB]
  have hq := no32 (smS 0 (recB a b p))
  rw [e]
  generalize nm (smS 0 (recB a b p)) = q at *
  refine ⟨?_, ?_, ?_, ?_⟩
  · have := vAt_nm (a := a) (by omega) [] (nm b ++ 32 :: (esc p ++ 32 :: q))
    simpa using this
  · have := vAt_nm (a := b) (by omega) (nm a ++ [32]) (esc p ++ 32 :: q)
    simpa using this
  · have := lsp_tail (nm a ++ 32 :: (nm b ++ 32 :: esc p)) q hq
    simp only [List.append_assoc, List.cons_append, List.length_append, List.length_cons] at this
    rw [this]
    omega
  · have e2 : nm a ++ 32 :: (nm b ++ 32 :: (esc p ++ 32 :: q)) = (nm a ++ 32 :: (nm b ++ [32])) ++ (esc p ++ 32 :: q) := by simp
    have e3 : (nm a ++ 32 :: (nm b ++ [32])).length = (nm a).length + 1 + (nm b).length + 1 := by simp; omega
    rw [e2, ← e3, List.drop_take, List.drop_left, Nat.add_sub_cancel_left, List.take_left]
theorem IsRec.uniq {s : List UInt8} {a b c d : Nat} {p q : List UInt8} (h : IsRec s a b p) (k : IsRec s c d q) : a = c ∧ b = d ∧ p = q := by
  obtain ⟨h1, h2, h3, h4⟩ := h.parts
  obtain ⟨k1, k2, k3, k4⟩ := k.parts
  rw [h1] at k1
  injection k1 with e1 e2
  rw [← e2] at k2 k3 k4
  rw [h2] at k2
  injection k2 with e3 e4
  rw [← e4] at k3 k4
  have e5 : (esc p).length = (esc q).length := by omega
  rw [← e5, h4] at k4
  refine ⟨by omega, by omega, ?_⟩
  rw [← une_esc p, k4, une_esc]
theorem IsRec.of {s : List UInt8} {a b : Int} {p : List UInt8} (h : recT a b p = s) (hs : s ≠ []) : IsRec s a.toNat b.toNat p ∧ 0 ≤ a ∧ 0 ≤ b := by
  unfold recT at h
  split at h
  · rename_i hk
    unfold recOk at hk
    simp only [Bool.and_eq_true, inB_iff] at hk
    exact ⟨⟨by omega, by omega, hk.2, h⟩, by omega, by omega⟩
  · exact absurd h.symm hs
theorem IsRec.text {s : List UInt8} {a b : Nat} {p : List UInt8} (h : IsRec s a b p) : recT a b p = s ∧ s ≠ [] := by
  obtain ⟨h1, h2, h3, h4⟩ := h
  have hk : recOk a b p = true := by
    unfold recOk
    simp only [Bool.and_eq_true, inB_iff]
    exact ⟨⟨by omega, by omega⟩, h3⟩
  have := (recX_len h1 h2 (tv_len h3)).1
  refine ⟨by unfold recT; rw [if_pos hk]; simpa using h4, ?_⟩
  rintro rfl
  rw [h4] at this
  simp at this

end Go.Proofs.YtdngdlcibaiekaaGreatDoor
