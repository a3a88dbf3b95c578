/- What is proved here: plain facts on lines of texts: where they begin and end. No condition. -/
import Derived.Test.YtcjgllbhmghkeaaDoorFlat
import Derived.Lib.Bytealg
namespace Go.Proofs.YtcjgllbhmghkeaaDoor
open Go.RowKit

/-- the number of line ends. -/
def nl (s : List UInt8) : Nat := s.count 10
theorem nl_le (s : List UInt8) : nl s ≤ s.length := List.count_le_length
theorem nl_take_succ (s : List UInt8) (k : Nat) (h : k < s.length) : nl (s.take (k + 1)) = nl (s.take k) + (if s[k] = 10 then 1 else 0) := by
  unfold nl
  rw [List.take_succ_eq_append_getElem h, List.count_append]
  congr 1
  by_cases e : s[k] = 10
  · simp [e]
  · simp [e]
theorem nl_mono (s : List UInt8) {j k : Nat} (h : j ≤ k) : nl (s.take j) ≤ nl (s.take k) := by
  unfold nl
  exact ((List.take_prefix_take_left (l := s) h).sublist).count_le 10
/-- the places at which lines begin. -/
def sts (s : List UInt8) : List Nat := 0 :: ((List.range s.length).filter fun i => s[i]? == some 10).map (· + 1)
theorem sts_take (s : List UInt8) (k : Nat) (h : k < s.length) : sts (s.take (k + 1)) = sts (s.take k) ++ (if s[k] = 10 then [k + 1] else []) := by
  unfold sts
  rw [List.length_take, List.length_take, show min (k + 1) s.length = k + 1 by omega, show min k s.length = k by omega, List.range_succ, List.filter_append, List.map_append, List.cons_append]
  congr 2
  · congr 1
    apply List.filter_congr
    intro i hi
    rw [List.mem_range] at hi
    rw [List.getElem?_take, List.getElem?_take, if_pos (by omega), if_pos hi]
  · have h1 : (s.take (k + 1))[k]? = some s[k] := by rw [List.getElem?_take, if_pos (by omega), List.getElem?_eq_getElem h]
    by_cases e : s[k] = 10
    · rw [if_pos e]
      simp [h1, e]
    · rw [if_neg e]
      simp [h1, e]
theorem sts_len : ∀ (s : List UInt8) (k : Nat), k ≤ s.length → (sts (s.take k)).length = nl (s.take k) + 1
  | s, 0, _ => by simp [sts, nl]
  | s, k + 1, h => by
    rw [sts_take s k (by omega), List.length_append, sts_len s k (by omega), nl_take_succ s k (by omega)]
    split <;> simp
theorem sts_pre (s : List UInt8) : ∀ (d k : Nat), k + d = s.length → ∀ i, i < (sts (s.take k)).length → (sts s)[i]? = (sts (s.take k))[i]?
  | 0, k, h, i, _ => by rw [List.take_of_length_le (by omega)]
  | d + 1, k, h, i, hi => by
    have h1 : i < (sts (s.take (k + 1))).length := by rw [sts_take s k (by omega), List.length_append]; omega
    rw [sts_pre s d (k + 1) (by omega) i h1, sts_take s k (by omega), List.getElem?_append_left hi]
/-- k is where line q begins. -/
def Qual (s : List UInt8) (q k : Nat) : Prop := nl (s.take k) = q ∧ (k = 0 ∨ ∃ h : k - 1 < s.length, 0 < k ∧ s[k - 1] = 10)
theorem qual_at {s : List UInt8} {q k : Nat} (hk : k ≤ s.length) (h : Qual s q k) : (sts s)[q]? = some k := by
  obtain ⟨h1, h2⟩ := h
  have hl := sts_len s k hk
  rw [sts_pre s (s.length - k) k (by omega) q (by omega)]
  rcases h2 with rfl | ⟨hlt, hpos, hc⟩
  · simp [nl] at h1
    subst h1
    simp [sts]
  · obtain ⟨j, rfl⟩ : ∃ j, k = j + 1 := ⟨k - 1, by omega⟩
    simp only [Nat.add_sub_cancel] at hlt hc
    have hl2 := sts_len s j (by omega)
    rw [nl_take_succ s j hlt, if_pos hc] at h1
    rw [sts_take s j hlt, if_pos hc, List.getElem?_append_right (by omega), show q - (sts (s.take j)).length = 0 by omega]
    rfl
theorem qual_ex (s : List UInt8) : ∀ (n q : Nat), n ≤ s.length → q ≤ nl (s.take n) → ∃ k, k ≤ n ∧ Qual s q k
  | 0, q, _, h => ⟨0, Nat.le_refl _, by simp [nl] at h ⊢; subst h; exact ⟨by simp [nl], .inl rfl⟩⟩
  | n + 1, q, hn, h => by
    by_cases hq : q ≤ nl (s.take n)
    · obtain ⟨k, hk, hh⟩ := qual_ex s n q (by omega) hq
      exact ⟨k, by omega, hh⟩
    · have h1 := nl_take_succ s n (by omega)
      by_cases e : s[n] = 10
      · rw [if_pos e] at h1
        exact ⟨n + 1, Nat.le_refl _, by omega, .inr ⟨by omega, by omega, by simpa using e⟩⟩
      · rw [if_neg e] at h1
        omega
theorem nl_full (s : List UInt8) : nl (s.take s.length) = nl s := by rw [List.take_length]
/-- where a line begins. -/
def lst (s : List UInt8) (q : Nat) : Nat := (sts s).getD q 0
theorem lst_spec (s : List UInt8) (q : Nat) (h : q ≤ nl s) : lst s q ≤ s.length ∧ Qual s q (lst s q) ∧ (sts s)[q]? = some (lst s q) := by
  obtain ⟨k, hk, hq⟩ := qual_ex s s.length q (Nat.le_refl _) (by rw [nl_full]; exact h)
  have := qual_at hk hq
  have e : lst s q = k := by unfold lst; rw [List.getD_eq_getElem?_getD, this]; rfl
  rw [e]
  exact ⟨hk, hq, this⟩
theorem lst_eq {s : List UInt8} {q k : Nat} (hk : k ≤ s.length) (h : Qual s q k) : lst s q = k := by
  unfold lst
  rw [List.getD_eq_getElem?_getD, qual_at hk h]; rfl
theorem qual_none (s : List UInt8) (q : Nat) (h : ∀ k, k ≤ s.length → ¬ Qual s q k) : ¬ q ≤ nl s := fun hq => by
  have := lst_spec s q hq
  exact h _ this.1 this.2.1
/-- the bytes up to the next line end. -/
def run10 (s : List UInt8) : Nat := (s.takeWhile fun c => c != 10).length
theorem run10_le (s : List UInt8) : run10 s ≤ s.length := (List.takeWhile_sublist (l := s) _).length_le
theorem run10_index : ∀ (s : List UInt8), Lib.indexByte s 10 = (if run10 s < s.length then (run10 s : Int) else -1)
  | [] => by simp [Lib.indexByte, run10]
  | c :: s => by
    have ih := run10_index s
    have hl := run10_le s
    unfold Lib.indexByte
    by_cases e : c = 10
    · subst e
      simp [run10]
    · have e1 : (c == 10) = false := by simpa using e
      have e2 : (c != 10) = true := by simpa using e
      have e3 : run10 (c :: s) = run10 s + 1 := by unfold run10; rw [List.takeWhile_cons, e2]; simp
      rw [e1, e3, ih, List.length_cons]
      by_cases hr : run10 s < s.length
      · have h1 : (if run10 s < s.length then (run10 s : Int) else -1) = run10 s := if_pos hr
        have h2 : (((run10 s : Nat) : Int) == -1) = false := by rw [beq_eq_false_iff_ne]; omega
        rw [h1, h2, if_pos (show run10 s + 1 < s.length + 1 by omega)]
        simp
      · have h1 : (if run10 s < s.length then (run10 s : Int) else -1) = -1 := if_neg hr
        rw [h1, if_neg (show ¬ run10 s + 1 < s.length + 1 by omega)]
        simp
/-- where a line ends. -/
def lend (s : List UInt8) (q : Nat) : Nat := lst s q + run10 (s.drop (lst s q))
theorem lend_le (s : List UInt8) (q : Nat) (h : q ≤ nl s) : lst s q ≤ lend s q ∧ lend s q ≤ s.length := by
  have := (lst_spec s q h).1
  have h2 := run10_le (s.drop (lst s q))
  rw [List.length_drop] at h2
  unfold lend
  omega
theorem run10_step (s : List UInt8) (k : Nat) (h : k < s.length) (hc : s[k] ≠ 10) : k + run10 (s.drop k) = k + 1 + run10 (s.drop (k + 1)) := by
  have e2 : (s[k] != 10) = true := by simpa using hc
  rw [List.drop_eq_getElem_cons h]
  unfold run10
  rw [List.takeWhile_cons, e2]
  simp
  omega
theorem run10_stop (s : List UInt8) (k : Nat) (h : k < s.length) (hc : s[k] = 10) : k + run10 (s.drop k) = k := by
  rw [List.drop_eq_getElem_cons h]
  unfold run10
  rw [List.takeWhile_cons, hc]
  simp
theorem run10_end (s : List UInt8) : s.length + run10 (s.drop s.length) = s.length := by
  rw [List.drop_length]; simp [run10]
/-- the column of a place. -/
def colOf (s : List UInt8) (p : Nat) : Nat := p - lst s (nl (s.take p))
theorem line_start_le (s : List UInt8) (p : Nat) (hp : p ≤ s.length) : lst s (nl (s.take p)) ≤ p := by
  obtain ⟨k, hk, hq⟩ := qual_ex s p (nl (s.take p)) hp (Nat.le_refl _)
  rw [lst_eq (by omega) hq]
  exact hk
/-- the last line end before a place. -/
theorem last_nl (s : List UInt8) (p : Nat) (hp : p ≤ s.length) (i : Nat) (hi : i < p) (hc : s[i]? = some 10) (hn : ∀ j, i < j → j < p → s[j]? ≠ some 10) : lst s (nl (s.take p)) = i + 1 := by
  have key : ∀ d, i + 1 + d ≤ p → nl (s.take (i + 1 + d)) = nl (s.take (i + 1)) := by
    intro d
    induction d with
    | zero => intro _; rfl
    | succ d ih =>
      intro hd
      have hlt : i + 1 + d < s.length := by omega
      have hne := hn (i + 1 + d) (by omega) (by omega)
      rw [List.getElem?_eq_getElem hlt] at hne
      rw [show i + 1 + (d + 1) = (i + 1 + d) + 1 by omega, nl_take_succ s _ hlt, if_neg (fun e => hne (by rw [e])), ih (by omega)]
      rfl
  have h1 := key (p - (i + 1)) (by omega)
  rw [show i + 1 + (p - (i + 1)) = p by omega] at h1
  have hil : i < s.length := by omega
  rw [List.getElem?_eq_getElem hil] at hc
  injection hc with hc
  refine lst_eq (by omega) ⟨h1.symm, .inr ⟨by simpa using hil, by omega, by simpa using hc⟩⟩
theorem no_nl (s : List UInt8) (p : Nat) (hp : p ≤ s.length) (hn : ∀ j, j < p → s[j]? ≠ some 10) : lst s (nl (s.take p)) = 0 := by
  have h1 : nl (s.take p) = 0 := by
    unfold nl
    rw [List.count_eq_zero]
    intro hm
    obtain ⟨j, hj, he⟩ := List.getElem_of_mem hm
    rw [List.length_take] at hj
    rw [List.getElem_take] at he
    exact hn j (by omega) (by rw [List.getElem?_eq_getElem (by omega), he])
  rw [h1]
  simp [lst, sts]
end Go.Proofs.YtcjgllbhmghkeaaDoor
