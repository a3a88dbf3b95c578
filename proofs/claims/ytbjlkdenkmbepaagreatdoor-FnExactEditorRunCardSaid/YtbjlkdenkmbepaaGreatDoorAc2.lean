/- What is proved here: What is proved here: plain facts on lines of texts: where they begin and end. What is proved here: plain facts on the lines of a text as strings.Split gives them, and on the rows in which a text is shown. What is proved here: plain facts: the lines of a text, and how they are joined. What is proved here: words for rows of strings. What is proved here: plain facts: lines that are changed. No condition. -/
import Derived.Test.YtbjlkdenkmbepaaGreatDoorBase
import Derived.Lib.Bytealg
import Derived.Lib.Split
import Derived.Test.YtbjlkdenkmbepaaGreatDoorText1
import Derived.Lib.Join
namespace Go.Proofs.YtbjlkdenkmbepaaGreatDoor
open Go.RowKit

/-- the number of line ends. -/
def nl (s : List UInt8) : Nat := s.count 10
theorem nl_le (s : List UInt8) : nl s ≤ s.length := List.count_le_length
theorem nl_take_succ (s : List UInt8) (k : Nat) (h : k < s.length) : nl (s.take (k + 1)) = nl (s.take k) + (if s[k] = 10 then 1 else 0) := by
  unfold nl
  rw [List.take_succ_eq_append_getElem h, List.count_append]
  congr 1
  by_cases e : s[k] = 10
  · simp [e]
  · simp [e]
/-- the places at which lines begin. -/
def sts (s : List UInt8) : List Nat := 0 :: ((List.range s.length).filter fun i => s[i]? == some 10).map (· + 1)
theorem sts_take (s : List UInt8) (k : Nat) (h : k < s.length) : sts (s.take (k + 1)) = sts (s.take k) ++ (if s[k] = 10 then [k + 1] else []) := by
  unfold sts
  rw [List.length_take, List.length_take, show min (k + 1) s.length = k + 1 by omega, show min k s.length = k by omega, List.range_succ, List.filter_append, List.map_append, List.cons_append]
  congr 2
  · congr 1
    apply List.filter_congr
    intro i hi
    rw [List.mem_range] at hi
    rw [List.getElem?_take, List.getElem?_take, if_pos (by omega), if_pos hi]
  · have h1 : (s.take (k + 1))[k]? = some s[k] := by rw [List.getElem?_take, if_pos (by omega), List.getElem?_eq_getElem h]
    by_cases e : s[k] = 10
    · rw [if_pos e]
      simp [h1, e]
    · rw [if_neg e]
      simp [h1, e]
theorem sts_len : ∀ (s : List UInt8) (k : Nat), k ≤ s.length → (sts (s.take k)).length = nl (s.take k) + 1
  | s, 0, _ => by simp [sts, nl]
  | s, k + 1, h => by
    rw [sts_take s k (by omega), List.length_append, sts_len s k (by omega), nl_take_succ s k (by omega)]
    split <;> simp
theorem sts_pre (s : List UInt8) : ∀ (d k : Nat), k + d = s.length → ∀ i, i < (sts (s.take k)).length → (sts s)[i]? = (sts (s.take k))[i]?
  | 0, k, h, i, _ => by rw [List.take_of_length_le (by omega)]
  | d + 1, k, h, i, hi => by
    have h1 : i < (sts (s.take (k + 1))).length := by rw [sts_take s k (by omega), List.length_append]; omega
    rw [sts_pre s d (k + 1) (by omega) i h1, sts_take s k (by omega), List.getElem?_append_left hi]
/-- k is where line q begins. -/
def Qual (s : List UInt8) (q k : Nat) : Prop := nl (s.take k) = q ∧ (k = 0 ∨ ∃ h : k - 1 < s.length, 0 < k ∧ s[k - 1] = 10)
theorem qual_at {s : List UInt8} {q k : Nat} (hk : k ≤ s.length) (h : Qual s q k) : (sts s)[q]? = some k := by
  obtain ⟨h1, h2⟩ := h
  have hl := sts_len s k hk
  rw [sts_pre s (s.length - k) k (by omega) q (by omega)]
  rcases h2 with rfl | ⟨hlt, hpos, hc⟩
  · simp [nl] at h1
    subst h1
    simp [sts]
  · obtain ⟨j, rfl⟩ : ∃ j, k = j + 1 := ⟨k - 1, by omega⟩
    simp only [Nat.add_sub_cancel] at hlt hc
    have hl2 := sts_len s j (by omega)
    rw [nl_take_succ s j hlt, if_pos hc] at h1
    rw [sts_take s j hlt, if_pos hc, List.getElem?_append_right (by omega), show q - (sts (s.take j)).length = 0 by omega]
    rfl
theorem qual_ex (s : List UInt8) : ∀ (n q : Nat), n ≤ s.length → q ≤ nl (s.take n) → ∃ k, k ≤ n ∧ Qual s q k
  | 0, q, _, h => ⟨0, Nat.le_refl _, by simp [nl] at h ⊢; subst h; exact ⟨by simp [nl], .inl rfl⟩⟩
  | n + 1, q, hn, h => by
    by_cases hq : q ≤ nl (s.take n)
    · obtain ⟨k, hk, hh⟩ := qual_ex s n q (by omega) hq
      exact ⟨k, by omega, hh⟩
    · have h1 := nl_take_succ s n (by omega)
      by_cases e : s[n] = 10
      · rw [if_pos e] at h1
        exact ⟨n + 1, Nat.le_refl _, by omega, .inr ⟨by omega, by omega, by simpa using e⟩⟩
      · rw [if_neg e] at h1
        omega
theorem nl_full (s : List UInt8) : nl (s.take s.length) = nl s := by rw [List.take_length]
/-- where a line begins. -/
def lst (s : List UInt8) (q : Nat) : Nat := (sts s).getD q 0
theorem lst_spec (s : List UInt8) (q : Nat) (h : q ≤ nl s) : lst s q ≤ s.length ∧ Qual s q (lst s q) ∧ (sts s)[q]? = some (lst s q) := by
  obtain ⟨k, hk, hq⟩ := qual_ex s s.length q (Nat.le_refl _) (by rw [nl_full]; exact h)
  have := qual_at hk hq
  have e : lst s q = k := by unfold lst; rw [List.getD_eq_getElem?_getD, this]; rfl
  rw [e]
  exact ⟨hk, hq, this⟩
theorem lst_eq {s : List UInt8} {q k : Nat} (hk : k ≤ s.length) (h : Qual s q k) : lst s q = k := by
  unfold lst
  rw [List.getD_eq_getElem?_getD, qual_at hk h]; rfl
theorem qual_none (s : List UInt8) (q : Nat) (h : ∀ k, k ≤ s.length → ¬ Qual s q k) : ¬ q ≤ nl s := fun hq => by
  have := lst_spec s q hq
  exact h _ this.1 this.2.1
/-- the bytes up to the next line end. -/
def run10 (s : List UInt8) : Nat := (s.takeWhile fun c => c != 10).length
theorem run10_le (s : List UInt8) : run10 s ≤ s.length := (List.takeWhile_sublist (l := s) _).length_le
theorem run10_index : ∀ (s : List UInt8), Lib.indexByte s 10 = (if run10 s < s.length then (run10 s : Int) else -1)
  | [] => by simp [Lib.indexByte, run10]
  | c :: s => by
    have ih := run10_index s
    have hl := run10_le s
    unfold Lib.indexByte
    by_cases e : c = 10
    · subst e
      simp [run10]
    · have e1 : (c == 10) = false := by simpa using e
      have e2 : (c != 10) = true := by simpa using e
      have e3 : run10 (c :: s) = run10 s + 1 := by unfold run10; rw [List.takeWhile_cons, e2]; simp
      rw [e1, e3, ih, List.length_cons]
      by_cases hr : run10 s < s.length
      · have h1 : (if run10 s < s.length then (run10 s : Int) else -1) = run10 s := if_pos hr
        have h2 : (((run10 s : Nat) : Int) == -1) = false := by rw [beq_eq_false_iff_ne]; omega
        rw [h1, h2, if_pos (show run10 s + 1 < s.length + 1 by omega)]
        simp
      · have h1 : (if run10 s < s.length then (run10 s : Int) else -1) = -1 := if_neg hr
        rw [h1, if_neg (show ¬ run10 s + 1 < s.length + 1 by omega)]
        simp
/-- where a line ends. -/
def lend (s : List UInt8) (q : Nat) : Nat := lst s q + run10 (s.drop (lst s q))
theorem lend_le (s : List UInt8) (q : Nat) (h : q ≤ nl s) : lst s q ≤ lend s q ∧ lend s q ≤ s.length := by
  have := (lst_spec s q h).1
  have h2 := run10_le (s.drop (lst s q))
  rw [List.length_drop] at h2
  unfold lend
  omega
theorem run10_step (s : List UInt8) (k : Nat) (h : k < s.length) (hc : s[k] ≠ 10) : k + run10 (s.drop k) = k + 1 + run10 (s.drop (k + 1)) := by
  have e2 : (s[k] != 10) = true := by simpa using hc
  rw [List.drop_eq_getElem_cons h]
  unfold run10
  rw [List.takeWhile_cons, e2]
  simp
  omega
theorem run10_stop (s : List UInt8) (k : Nat) (h : k < s.length) (hc : s[k] = 10) : k + run10 (s.drop k) = k := by
  rw [List.drop_eq_getElem_cons h]
  unfold run10
  rw [List.takeWhile_cons, hc]
  simp
theorem run10_end (s : List UInt8) : s.length + run10 (s.drop s.length) = s.length := by
  rw [List.drop_length]; simp [run10]
end Go.Proofs.YtbjlkdenkmbepaaGreatDoor

namespace Go.Proofs.YtbjlkdenkmbepaaGreatDoor
open Go.RowKit
set_option linter.unusedVariables false

/-- the text of line q. -/
def lnT (s : List UInt8) (q : Nat) : List UInt8 := (s.take (lend s q)).drop (lst s q)
theorem nl_drop (s : List UInt8) (p : Nat) : nl (s.take p) + nl (s.drop p) = nl s := by
  unfold nl
  rw [← List.count_append, List.take_append_drop]
theorem run10_free : ∀ s : List UInt8, nl (s.take (run10 s)) = 0
  | [] => rfl
  | b :: l => by
    by_cases hb : b = 10
    · subst hb
      simp [run10, nl]
    · have e : run10 (b :: l) = run10 l + 1 := by
        unfold run10
        rw [List.takeWhile_cons]
        simp [hb]
      have ih := run10_free l
      unfold nl at ih ⊢
      rw [e, List.take_succ_cons, List.count_cons_of_ne (by simpa using hb)]
      exact ih
theorem run10_all : ∀ s : List UInt8, (10 : UInt8) ∉ s → run10 s = s.length
  | [], _ => rfl
  | b :: l, h => by
    simp only [List.mem_cons, not_or] at h
    have ih := run10_all l h.2
    unfold run10 at ih ⊢
    rw [List.takeWhile_cons]
    have hb : b ≠ 10 := fun e => h.1 e.symm
    simp [hb, ih]
theorem run10_lt (s : List UInt8) (h : 0 < nl s) : ∃ h : run10 s < s.length, s[run10 s] = 10 := by
  unfold run10
  induction s with
  | nil => simp [nl] at h
  | cons b l ih =>
    by_cases hb : b = 10
    · subst hb
      exact ⟨by simp, by simp⟩
    · have h2 : 0 < nl l := by
        unfold nl at h ⊢
        rw [List.count_cons_of_ne (by simpa using hb)] at h
        exact h
      obtain ⟨h3, h4⟩ := ih h2
      have e : ((b :: l).takeWhile fun c => c != 10) = b :: (l.takeWhile fun c => c != 10) := by rw [List.takeWhile_cons]; simp [hb]
      simp only [e, List.length_cons]
      exact ⟨by omega, by simpa using h4⟩
theorem lst_next (s : List UInt8) (q : Nat) (h : q < nl s) : lend s q < s.length ∧ lst s (q + 1) = lend s q + 1 := by
  obtain ⟨h1, h2, _⟩ := lst_spec s q (by omega)
  have hd := nl_drop s (lst s q)
  have hq : nl (s.take (lst s q)) = q := h2.1
  obtain ⟨h3, h4⟩ := run10_lt (s.drop (lst s q)) (by omega)
  rw [List.length_drop] at h3
  rw [List.getElem_drop] at h4
  have hlen : lend s q < s.length := by unfold lend; omega
  refine ⟨hlen, lst_eq (by omega) ⟨?_, .inr ⟨by omega, by omega, ?_⟩⟩⟩
  · have ha : s.take (lend s q + 1) = s.take (lst s q) ++ ((s.drop (lst s q)).take (run10 (s.drop (lst s q))) ++ [s[lend s q]]) := by
      rw [← List.append_assoc, List.take_succ_eq_append_getElem hlen]
      congr 1
      unfold lend
      rw [List.take_add]
    have hf := run10_free (s.drop (lst s q))
    have h4' : s[lend s q] = 10 := h4
    rw [ha]
    unfold nl at hf hq ⊢
    rw [List.count_append, List.count_append, hf, hq, h4']
    simp
  · exact h4
theorem lend_last (s : List UInt8) : lend s (nl s) = s.length := by
  obtain ⟨h1, h2, _⟩ := lst_spec s (nl s) (Nat.le_refl _)
  have hd := nl_drop s (lst s (nl s))
  have hq : nl (s.take (lst s (nl s))) = nl s := h2.1
  have h0 : nl (s.drop (lst s (nl s))) = 0 := by omega
  have e := run10_all _ (List.count_eq_zero.1 h0)
  unfold lend
  rw [e, List.length_drop]
  omega
theorem index10 (s : List UInt8) : Lib.index s [10] = if run10 s < s.length then (run10 s : Int) else -1 := by
  rw [← run10_index]
  induction s with
  | nil => rfl
  | cons b l ih =>
    rw [Lib.index, Lib.indexByte, ih]
    have h : [(10 : UInt8)].isPrefixOf (b :: l) = (b == 10) := by simp [List.isPrefixOf, Bool.beq_comm]
    rw [h]
theorem split_from (s : List UInt8) : ∀ (d q : Nat), q + d = nl s → Lib.splitK [10] 0 d (s.drop (lst s q)) = (List.range' q (d + 1)).map (lnT s)
  | 0, q, h => by
    have : q = nl s := by omega
    subst this
    show [s.drop (lst s (nl s))] = [lnT s (nl s)]
    unfold lnT
    rw [lend_last, List.take_length]
  | d + 1, q, h => by
    obtain ⟨h1, h2⟩ := lst_next s q (by omega)
    have hr : run10 (s.drop (lst s q)) < (s.drop (lst s q)).length := by
      rw [List.length_drop]
      unfold lend at h1
      omega
    have hi := index10 (s.drop (lst s q))
    rw [if_pos hr] at hi
    rw [Lib.splitK, if_neg (by rw [hi]; simp), hi]
    rw [List.range'_succ, List.map_cons]
    have hl : run10 (s.drop (lst s q)) + lst s q = lend s q := by unfold lend; omega
    congr 1
    · unfold lnT
      rw [← hl, List.take_drop, Nat.add_comm]
      simp [Nat.add_comm]
    · rw [List.drop_drop, show lst s q + ((run10 (s.drop (lst s q)) : Int).toNat + [(10 : UInt8)].length) = lst s (q + 1) by rw [h2]; unfold lend; simp; omega]
      exact split_from s d (q + 1) (by omega)

end Go.Proofs.YtbjlkdenkmbepaaGreatDoor

namespace Go.Proofs.YtbjlkdenkmbepaaGreatDoor
open Go.RowKit
set_option linter.unusedVariables false

/-- lines as a text. -/
def jn (xs : List (List UInt8)) : List UInt8 := Lib.join xs [10]
theorem jn_nil : jn [] = [] := rfl
theorem jn_one (x : List UInt8) : jn [x] = x := Lib.join_one x [10]
theorem jn_two (x y : List UInt8) (r : List (List UInt8)) : jn (x :: y :: r) = x ++ 10 :: jn (y :: r) := by
  unfold jn
  rw [Lib.join_cons, Lib.join_cons]
  simp [Lib.joinTail]
theorem jn_snoc : ∀ (xs : List (List UInt8)) (y : List UInt8), xs ≠ [] → jn (xs ++ [y]) = jn xs ++ 10 :: y
  | [], y, h => absurd rfl h
  | [x], y, _ => by
    rw [List.cons_append, List.nil_append, jn_two, jn_one, jn_one]
  | x :: z :: r, y, _ => by
    have ih := jn_snoc (z :: r) y (by simp)
    rw [List.cons_append, List.cons_append, jn_two, jn_two, ← List.cons_append, ih]
    simp
theorem lens_app (a b : List (List UInt8)) : Lib.lens (a ++ b) = Lib.lens a + Lib.lens b := by unfold Lib.lens; simp
theorem lens_nil : Lib.lens [] = 0 := rfl
theorem lens_cons (x : List UInt8) (r : List (List UInt8)) : Lib.lens (x :: r) = x.length + Lib.lens r := by unfold Lib.lens; simp
theorem jn_len : ∀ (xs : List (List UInt8)), xs ≠ [] → (jn xs).length + 1 = Lib.lens xs + xs.length
  | [], h => absurd rfl h
  | [x], _ => by rw [jn_one, lens_cons, lens_nil]; simp
  | x :: y :: r, _ => by
    have ih := jn_len (y :: r) (by simp)
    rw [jn_two, List.length_append, List.length_cons, lens_cons, List.length_cons]
    omega
theorem jn_all : ∀ (xs : List (List UInt8)), (jn xs).all okC = xs.all fun x => x.all okC
  | [] => rfl
  | [x] => by rw [jn_one]; simp
  | x :: y :: r => by
    have ih := jn_all (y :: r)
    have h10 : okC 10 = true := by decide
    rw [jn_two, List.all_append, List.all_cons, ih, h10]
    simp
theorem lens_mem {x : List UInt8} {xs : List (List UInt8)} (h : x ∈ xs) : x.length ≤ Lib.lens xs := by
  induction xs with
  | nil => simp at h
  | cons y r ih =>
    rw [lens_cons]
    rcases List.mem_cons.1 h with rfl | h
    · omega
    · have := ih h; omega
/-- a line of a valid text is valid. -/
theorem jn_mem_tv {x : List UInt8} {xs : List (List UInt8)} (ht : tv (jn xs) = true) (h : x ∈ xs) : tv x = true := by
  have hl := tv_len ht
  have hn := jn_len xs (by intro e; rw [e] at h; simp at h)
  have hp : 1 ≤ xs.length := by cases xs <;> simp_all
  have hm := lens_mem h
  simp only [tv, Bool.and_eq_true] at ht ⊢
  rw [jn_all, List.all_eq_true] at ht
  exact ⟨ht.1 x h, by simp; omega⟩

/-- the lines of a text. -/
def lns (s : List UInt8) : List (List UInt8) := (List.range (nl s + 1)).map (lnT s)
theorem lns_len (s : List UInt8) : (lns s).length = nl s + 1 := by simp [lns]
theorem lns_at (s : List UInt8) (q : Nat) (h : q < (lns s).length) : (lns s)[q] = lnT s q := by simp [lns]
theorem lns_drop (s : List UInt8) (q : Nat) (h : q ≤ nl s) : (lns s).drop q = lnT s q :: (lns s).drop (q + 1) := by
  rw [List.drop_eq_getElem_cons (by rw [lns_len]; omega), lns_at]
theorem lend_lt (s : List UInt8) (q : Nat) (h : q < nl s) : lend s q < lend s (q + 1) := by
  have h1 := lst_next s q h
  have h2 := lend_le s (q + 1) (by omega)
  omega
theorem lend_mono (s : List UInt8) : ∀ (d q : Nat), q + d ≤ nl s → lend s q ≤ lend s (q + d)
  | 0, q, _ => Nat.le_refl _
  | d + 1, q, h => by
    have h1 := lend_mono s d q (by omega)
    have h2 := lend_lt s (q + d) (by omega)
    rw [show q + (d + 1) = q + d + 1 by omega]
    omega
theorem lend_10 (s : List UInt8) (q : Nat) (h : q < nl s) : ∃ h : lend s q < s.length, s[lend s q] = 10 := by
  have h1 := lst_next s q h
  have h2 := (lst_spec s (q + 1) (by omega)).2.1.2
  rw [h1.2] at h2
  rcases h2 with h2 | ⟨h2, h3, h4⟩
  · omega
  · exact ⟨h1.1, by simpa using h4⟩
/-- some lines, joined, are a part of the text. -/
theorem jn_sub (s : List UInt8) : ∀ (d f : Nat), f + d ≤ nl s → jn (((lns s).take (f + d + 1)).drop f) = (s.take (lend s (f + d))).drop (lst s f)
  | 0, f, h => by
    rw [Nat.add_zero]
    have e : ((lns s).take (f + 1)).drop f = [lnT s f] := by
      rw [List.drop_take, Nat.add_sub_cancel_left, lns_drop s f h]
      rfl
    rw [e, jn_one]
    rfl
  | d + 1, f, h => by
    have ih := jn_sub s d (f + 1) (by omega)
    rw [show f + 1 + d = f + (d + 1) by omega] at ih
    have e : ((lns s).take (f + (d + 1) + 1)).drop f = lnT s f :: ((lns s).take (f + (d + 1) + 1)).drop (f + 1) := by
      rw [List.drop_take, List.drop_take, lns_drop s f (by omega), show f + (d + 1) + 1 - f = d + 1 + 1 by omega, show f + (d + 1) + 1 - (f + 1) = d + 1 by omega, List.take_succ_cons]
    have hne : ((lns s).take (f + (d + 1) + 1)).drop (f + 1) ≠ [] := by
      intro e
      have := congrArg List.length e
      rw [List.length_drop, List.length_take, lns_len] at this
      simp at this
      omega
    obtain ⟨y, r, hyr⟩ := List.exists_cons_of_ne_nil hne
    rw [e, hyr, jn_two, ← hyr, ih]
    obtain ⟨h1, h2⟩ := lend_10 s f (by omega)
    have h3 := (lst_next s f (by omega)).2
    have h4 := lend_le s f (by omega)
    have h5 := lend_mono s d (f + 1) (by omega)
    rw [show f + 1 + d = f + (d + 1) by omega] at h5
    have h6 := lend_lt s f (by omega)
    rw [h3]
    generalize lend s (f + (d + 1)) = E at *
    unfold lnT
    generalize lst s f = B at *
    generalize lend s f = M at *
    have hE : (s.take E).drop M = 10 :: (s.take E).drop (M + 1) := by
      rw [List.drop_eq_getElem_cons (by rw [List.length_take]; omega), List.getElem_take, h2]
    have hs : (s.take E).drop B = (s.take M).drop B ++ (s.take E).drop M := by
      have e1 : s.take M = (s.take E).take M := by rw [List.take_take, Nat.min_eq_left (by omega)]
      rw [e1, ← List.drop_append_of_le_length (by rw [List.length_take, List.length_take]; omega), List.take_append_drop]
    rw [hs, hE]
theorem jn_lns (s : List UInt8) : jn (lns s) = s := by
  have h := jn_sub s (nl s) 0 (by omega)
  have h0 : lst s 0 = 0 := lst_eq (Nat.zero_le _) ⟨rfl, .inl rfl⟩
  rw [Nat.zero_add, lend_last, h0, List.take_length, List.drop_zero, List.drop_zero, List.take_of_length_le (by rw [lns_len]; exact Nat.le_refl _)] at h
  exact h
theorem lns_ne (s : List UInt8) : lns s ≠ [] := by
  intro e
  have := congrArg List.length e
  rw [lns_len] at this
  simp at this
theorem lens_lns (s : List UInt8) : Lib.lens (lns s) + nl s = s.length := by
  have := jn_len (lns s) (lns_ne s)
  rw [jn_lns, lns_len] at this
  omega
theorem lnT_free (s : List UInt8) (q : Nat) : nl (lnT s q) = 0 := by
  have h := run10_free (s.drop (lst s q))
  unfold lnT lend
  rw [List.drop_take, Nat.add_sub_cancel_left]
  exact h
theorem lns_mem {s x : List UInt8} (h : x ∈ lns s) : nl x = 0 ∧ (tv s = true → tv x = true) := by
  refine ⟨?_, fun ht => jn_mem_tv (by rw [jn_lns]; exact ht) h⟩
  unfold lns at h
  rw [List.mem_map] at h
  obtain ⟨q, _, rfl⟩ := h
  exact lnT_free s q
theorem lens_take_drop (xs : List (List UInt8)) (k : Nat) : Lib.lens (xs.take k) + Lib.lens (xs.drop k) = Lib.lens xs := by
  rw [← lens_app, List.take_append_drop]
theorem lens_drop_le (xs : List (List UInt8)) (j k : Nat) (h : j ≤ k) : Lib.lens (xs.drop k) ≤ Lib.lens (xs.drop j) := by
  have := lens_take_drop (xs.drop j) (k - j)
  rw [List.drop_drop, show j + (k - j) = k by omega] at this
  omega
/-- a text without some of its lines. -/
def cutL (s : List UInt8) (f m : Nat) : List (List UInt8) := (lns s).take f ++ (lns s).drop (f + m)
theorem cutL_mem {s x : List UInt8} {f m : Nat} (h : x ∈ cutL s f m) : x ∈ lns s := by
  unfold cutL at h
  rcases List.mem_append.1 h with h | h
  · exact List.mem_of_mem_take h
  · exact List.mem_of_mem_drop h
theorem cutL_len (s : List UInt8) (f m : Nat) (ht : tv s = true) : (jn (cutL s f m)).length ≤ 120 := by
  have hl := tv_len ht
  by_cases h0 : cutL s f m = []
  · rw [h0]; decide
  · have h1 := jn_len _ h0
    have h2 := lens_lns s
    have h3 := lens_take_drop (lns s) f
    have h4 := lens_drop_le (lns s) f (f + m) (by omega)
    have h5 : (cutL s f m).length ≤ nl s + 1 := by unfold cutL; rw [List.length_append, List.length_take, List.length_drop, lns_len]; omega
    have h6 : Lib.lens (cutL s f m) = Lib.lens ((lns s).take f) + Lib.lens ((lns s).drop (f + m)) := lens_app _ _
    omega
/-- a text with further lines. -/
def putL (s : List UInt8) (a : Nat) (t : List UInt8) : List (List UInt8) := (lns s).take a ++ (lns t ++ (lns s).drop a)
theorem putL_len (s : List UInt8) (a : Nat) (t : List UInt8) : (jn (putL s a t)).length = s.length + 1 + t.length := by
  have h1 := jn_len (putL s a t) (by
    intro e
    have := congrArg List.length e
    unfold putL at this
    rw [List.length_append, List.length_append, lns_len t] at this
    simp at this)
  have h2 := lens_lns s
  have h3 := lens_lns t
  have h4 := lens_take_drop (lns s) a
  have h5 : (putL s a t).length = nl s + 1 + (nl t + 1) := by unfold putL; rw [List.length_append, List.length_append, List.length_take, List.length_drop, lns_len, lns_len]; omega
  have h6 : Lib.lens (putL s a t) = Lib.lens ((lns s).take a) + (Lib.lens (lns t) + Lib.lens ((lns s).drop a)) := by unfold putL; rw [lens_app, lens_app]
  omega
theorem putL_mem {s x t : List UInt8} {a : Nat} (h : x ∈ putL s a t) : x ∈ lns s ∨ x ∈ lns t := by
  unfold putL at h
  rcases List.mem_append.1 h with h | h
  · exact .inl (List.mem_of_mem_take h)
  · rcases List.mem_append.1 h with h | h
    · exact .inr h
    · exact .inl (List.mem_of_mem_drop h)
theorem putL_tv {s t : List UInt8} {a : Nat} (hs : tv s = true) (ht : tv t = true) : tv (jn (putL s a t)) = decide (s.length + 1 + t.length ≤ 120) := by
  have h1 : (jn (putL s a t)).all okC = true := by
    rw [jn_all, List.all_eq_true]
    intro x hx
    have hv : tv x = true := by
      rcases putL_mem hx with h | h
      · exact (lns_mem h).2 hs
      · exact (lns_mem h).2 ht
    simp only [tv, Bool.and_eq_true] at hv
    exact hv.1
  unfold tv
  rw [h1, putL_len, Bool.true_and]
/-- the lines a, .., i - 1, changed. -/
def mapTo (f : List UInt8 → List UInt8) (a i : Nat) (xs : List (List UInt8)) : List (List UInt8) := xs.take a ++ (((xs.take i).drop a).map f ++ xs.drop i)
theorem mapTo_len {f : List UInt8 → List UInt8} {a i : Nat} {xs : List (List UInt8)} (ha : a ≤ i) (hi : i ≤ xs.length) : (mapTo f a i xs).length = xs.length := by
  unfold mapTo
  rw [List.length_append, List.length_append, List.length_map, List.length_drop, List.length_take, List.length_take, List.length_drop]
  omega
theorem mapTo_start (f : List UInt8 → List UInt8) (a : Nat) (xs : List (List UInt8)) : mapTo f a a xs = xs := by
  unfold mapTo
  rw [List.drop_of_length_le (by rw [List.length_take]; omega), List.map_nil, List.nil_append, List.take_append_drop]
theorem mapTo_at {f : List UInt8 → List UInt8} {a i : Nat} {xs : List (List UInt8)} (ha : a ≤ i) (hi : i < xs.length) : (mapTo f a i xs)[i]? = some xs[i] := by
  unfold mapTo
  rw [← List.append_assoc, List.getElem?_append_right (by rw [List.length_append, List.length_map, List.length_drop, List.length_take, List.length_take]; omega)]
  rw [List.length_append, List.length_map, List.length_drop, List.length_take, List.length_take, List.getElem?_drop, show i + (i - (min a xs.length + (min i xs.length - a))) = i by omega, List.getElem?_eq_getElem hi]
theorem mapTo_step {f : List UInt8 → List UInt8} {a i : Nat} {xs : List (List UInt8)} (ha : a ≤ i) (hi : i < xs.length) : (mapTo f a i xs).set i (f xs[i]) = mapTo f a (i + 1) xs := by
  have e1 : (xs.take (i + 1)).drop a = (xs.take i).drop a ++ [xs[i]] := by
    rw [List.take_succ_eq_append_getElem hi, List.drop_append_of_le_length (by rw [List.length_take]; omega)]
  unfold mapTo
  rw [e1, List.map_append, ← List.append_assoc, List.set_append_right _ _ (by rw [List.length_append, List.length_map, List.length_drop, List.length_take, List.length_take]; omega)]
  rw [List.length_append, List.length_map, List.length_drop, List.length_take, List.length_take, show i - (min a xs.length + (min i xs.length - a)) = 0 by omega, List.drop_eq_getElem_cons hi, List.set_cons_zero]
  simp
theorem mapTo_mem {f : List UInt8 → List UInt8} {a i k : Nat} {xs : List (List UInt8)} (ha : a ≤ k) (hk : k < i) (hi : i ≤ xs.length) : f (xs[k]'(by omega)) ∈ mapTo f a i xs := by
  unfold mapTo
  refine List.mem_append_right _ (List.mem_append_left _ (List.mem_map_of_mem ?_))
  refine List.mem_iff_getElem?.2 ⟨k - a, ?_⟩
  rw [List.getElem?_drop, List.getElem?_take, if_pos (by omega), show a + (k - a) = k by omega, List.getElem?_eq_getElem]

end Go.Proofs.YtbjlkdenkmbepaaGreatDoor

namespace Go.Proofs.YtbjlkdenkmbepaaGreatDoor
open Go.RowKit

def strC (l : List UInt8) : List Value := [S l]
theorem strC_len (l : List UInt8) : (strC l).length = 1 := rfl
theorem str_info : (Tryz.prog.info? 9).map (fun i => (i.zero, i.size, i.bytes)) = some (some (S []), 1, 16) := by kernel_rfl
def StrsPost (xs : List (List UInt8)) (w : World) (e : Ending) (w' : World) : Prop :=
  ∃ v, e = .returned v ∧ Own w' w.heap.size 9 1 v xs.length (xs.flatMap strC) ∧ Below w.heap.size w w'
theorem own_emptyS (w : World) (B : Nat) (hB : B ≤ w.heap.size) : Own (w.alloc (.cells #[] 9)) B 9 1 (.slice (some ⟨w.heap.size, 0, none⟩) 0 0) 0 [] :=
  World.ownsRow_lit (base := B) (e := 9) (size := 1) w #[] 0 hB (Nat.zero_le _) rfl

end Go.Proofs.YtbjlkdenkmbepaaGreatDoor

namespace Go.Proofs.YtbjlkdenkmbepaaGreatDoor
open Go.RowKit
set_option linter.unusedVariables false

theorem lens_bd : ∀ (xs : List (List UInt8)) (b : Nat), (∀ x ∈ xs, x.length ≤ b) → Lib.lens xs ≤ xs.length * b
  | [], b, _ => by rw [lens_nil]; exact Nat.zero_le _
  | x :: r, b, h => by
    have ih := lens_bd r b fun y hy => h y (by simp [hy])
    have h1 := h x (by simp)
    rw [lens_cons, List.length_cons, Nat.succ_mul]
    omega
theorem mapTo_in {F : List UInt8 → List UInt8} {a i : Nat} {xs : List (List UInt8)} {y : List UInt8} (h : y ∈ mapTo F a i xs) : y ∈ xs ∨ ∃ x ∈ xs, y = F x := by
  unfold mapTo at h
  rcases List.mem_append.1 h with h | h
  · exact .inl (List.mem_of_mem_take h)
  · rcases List.mem_append.1 h with h | h
    · rw [List.mem_map] at h
      obtain ⟨x, hx, rfl⟩ := h
      exact .inr ⟨x, List.mem_of_mem_take (List.mem_of_mem_drop hx), rfl⟩
    · exact .inl (List.mem_of_mem_drop h)
theorem mapTo_jn_len (F : List UInt8 → List UInt8) (a i : Nat) (s : List UInt8) (hs : tv s = true) (ha : a ≤ i) (hi : i ≤ (lns s).length) (hF : ∀ x ∈ lns s, (F x).length ≤ 130000000) : (jn (mapTo F a i (lns s))).length ≤ 100000000000 := by
  have hl := tv_len hs
  have hn := nl_le s
  have hlen := mapTo_len (f := F) ha hi
  rw [lns_len] at hlen
  have h0 : mapTo F a i (lns s) ≠ [] := by
    intro e
    rw [e] at hlen
    simp at hlen
  have h1 := jn_len _ h0
  have h2 := lens_bd (mapTo F a i (lns s)) 130000000 fun y hy => by
    rcases mapTo_in hy with h | ⟨x, hx, rfl⟩
    · have := tv_len ((lns_mem h).2 hs)
      omega
    · exact hF x hx
  have h3 : (nl s + 1) * 130000000 ≤ 121 * 130000000 := Nat.mul_le_mul_right _ (by omega)
  rw [hlen] at h1 h2
  omega
theorem flat_set1 (L : List (List UInt8)) (i : Nat) (z : List UInt8) : ((L.set i z).flatMap strC) = (L.flatMap strC).set i (S z) := by
  induction L generalizing i with
  | nil => rfl
  | cons x L ih =>
    cases i with
    | zero => rfl
    | succ i =>
      rw [List.set_cons_succ, List.flatMap_cons, List.flatMap_cons, ih]
      rfl
theorem flat_at1 (L : List (List UInt8)) (i : Nat) (x : List UInt8) (h : L[i]? = some x) : (L.flatMap strC)[i]? = some (S x) := by
  have h1 := flat_at strC 1 strC_len L i 0 x h (by omega)
  rwa [Nat.mul_one, Nat.add_zero] at h1

end Go.Proofs.YtbjlkdenkmbepaaGreatDoor
