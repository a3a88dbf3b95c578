/- What is proved here: plain facts on how a number of a record is read, digit by digit. No condition. -/
import Derived.Test.YtdngdlcibaiekaaGreatDoorRc3
namespace Go.Proofs.YtdngdlcibaiekaaGreatDoor
open Go.RowKit

theorem takeWhile_stop {p : UInt8 → Bool} : ∀ (l m : List UInt8), (∀ c ∈ l, p c = true) → (∀ c, m.head? = some c → p c = false) → (l ++ m).takeWhile p = l
  | [], [], _, _ => rfl
  | [], c :: m, _, h => by rw [List.nil_append, List.takeWhile_cons_of_neg (by simp [h c rfl])]
  | x :: l, m, h, k => by
    rw [List.cons_append, List.takeWhile_cons_of_pos (h x (by simp)), takeWhile_stop l m (fun c hc => h c (by simp [hc])) k]
/-- the digits read so far are all of them. -/
theorem dgs_end {s : List UInt8} {k j : Nat} (hj : j ≤ 4) (hd : ∀ c ∈ (s.drop k).take j, dgB c = true) (hs : j = 4 ∨ k + j = s.length ∨ ∃ h : k + j < s.length, dgB s[k + j] = false) : dgs s k = (s.drop k).take j := by
  unfold dgs
  have e : (s.drop k).take 4 = (s.drop k).take j ++ (((s.drop k).drop j).take (4 - j)) := by
    rw [← List.take_add]
    congr 1
    omega
  rw [e]
  refine takeWhile_stop _ _ hd fun c hc => ?_
  rcases hs with h | h | ⟨h, h2⟩
  · rw [h] at hc
    simp at hc
  · rw [List.drop_drop, List.drop_of_length_le (by omega)] at hc
    simp at hc
  · rw [List.drop_drop, List.drop_eq_getElem_cons h] at hc
    cases h4 : 4 - j with
    | zero => rw [h4] at hc; simp at hc
    | succ n =>
      rw [h4, List.take_succ_cons, List.head?_cons] at hc
      injection hc with hc
      rw [← hc]
      exact h2
theorem vl_step {s : List UInt8} {k j : Nat} (h : k + j < s.length) : vl 0 ((s.drop k).take (j + 1)) = 10 * vl 0 ((s.drop k).take j) + ((s[k + j]).toNat - 48) := by
  rw [List.take_succ_eq_append_getElem (by rw [List.length_drop]; omega), vl_snoc]
  congr 2
  rw [List.getElem_drop]
theorem dg_more {s : List UInt8} {k j : Nat} (h : k + j < s.length) (hd : ∀ c ∈ (s.drop k).take j, dgB c = true) (hc : dgB s[k + j] = true) : ∀ c ∈ (s.drop k).take (j + 1), dgB c = true := by
  intro c hm
  rw [List.take_succ_eq_append_getElem (by rw [List.length_drop]; omega), List.mem_append] at hm
  rcases hm with hm | hm
  · exact hd c hm
  · rw [List.mem_singleton.1 hm, List.getElem_drop]
    exact hc
theorem vl_lt (l : List UInt8) : ∀ n, (∀ c ∈ l, dgB c = true) → vl n l < (n + 1) * 10 ^ l.length := by
  induction l with
  | nil =>
    intro n _
    show n < (n + 1) * 1
    omega
  | cons c l ih =>
    intro n h
    have hc := h c (by simp)
    unfold dgB at hc
    rw [Bool.and_eq_true, decide_eq_true_eq, decide_eq_true_eq] at hc
    have h2 := ih (10 * n + (c.toNat - 48)) fun d hd => h d (by simp [hd])
    show vl (10 * n + (c.toNat - 48)) l < _
    rw [List.length_cons, Nat.pow_succ]
    refine Nat.lt_of_lt_of_le h2 ?_
    rw [Nat.mul_comm (10 ^ l.length) 10, ← Nat.mul_assoc]
    exact Nat.mul_le_mul_right _ (by omega)
theorem vl_four {s : List UInt8} {k j : Nat} (hj : j ≤ 4) (hd : ∀ c ∈ (s.drop k).take j, dgB c = true) : vl 0 ((s.drop k).take j) < 10000 := by
  have h := vl_lt _ 0 hd
  have hl : ((s.drop k).take j).length ≤ 4 := by rw [List.length_take]; omega
  have : 10 ^ ((s.drop k).take j).length ≤ 10 ^ 4 := Nat.pow_le_pow_right (by omega) hl
  omega

end Go.Proofs.YtdngdlcibaiekaaGreatDoor
