/- What is proved here: What is proved here: plain facts on how a record's bytes are read, and on records that lack their last byte. What is proved here: plain facts on records that are played. What is proved here: plain facts on the records of a history. What is proved here: plain facts on how a number of a record is read, digit by digit. What is proved here: plain facts: which change the parts of a text lead to. No condition. -/
import Derived.Test.YtbjlkdenkmbepaaGreatDoorRc1
import Derived.Test.YtbjlkdenkmbepaaGreatDoorHist0
namespace Go.Proofs.YtbjlkdenkmbepaaGreatDoor
open Go.RowKit

/-- what the bytes from k on, up to e, stand for. -/
def uneA (s : List UInt8) (e k : Nat) : List UInt8 := une ((s.take e).drop k)
theorem uneA_end (s : List UInt8) {e k : Nat} (h : e ≤ k) : uneA s e k = [] := by
  unfold uneA
  rw [List.drop_of_length_le (by rw [List.length_take]; omega)]
  rfl
theorem uneA_drop (s : List UInt8) {e k : Nat} (h : k < e) (he : e ≤ s.length) : (s.take e).drop k = s[k] :: (s.take e).drop (k + 1) := by
  rw [List.drop_eq_getElem_cons (by rw [List.length_take]; omega), List.getElem_take]
theorem uneA_two (s : List UInt8) {e k : Nat} (h : k + 1 < e) (he : e ≤ s.length) (hc : s[k] = 92) : uneA s e k = (if s[k + 1] = 110 then 10 else s[k + 1]) :: uneA s e (k + 2) := by
  unfold uneA
  rw [uneA_drop s (show k < e by omega) he, uneA_drop s h he, une, if_pos hc]
theorem uneA_one (s : List UInt8) {e k : Nat} (h : k < e) (he : e ≤ s.length) (hc : ¬ (s[k] = 92 ∧ k + 1 < e)) : uneA s e k = s[k] :: uneA s e (k + 1) := by
  unfold uneA
  rw [uneA_drop s h he]
  by_cases h2 : k + 1 < e
  · rw [uneA_drop s h2 he, une, if_neg (fun h3 => hc ⟨h3, h2⟩)]
  · rw [List.drop_of_length_le (by rw [List.length_take]; omega)]
    rfl
/-- a record without its last byte is no record. -/
theorem IsRec.less {s : List UInt8} {a b c d : Nat} {p q : List UInt8} (h : IsRec s a b p) : ¬ IsRec (s.take (s.length - 1)) c d q := by
  rintro ⟨_, _, _, k⟩
  obtain ⟨_, _, _, h⟩ := h
  have key : ∀ (x y : List UInt8) (u v : List UInt8), (∀ c ∈ u, c ≠ 32) → (∀ c ∈ v, c ≠ 32) → x ++ 32 :: u = y ++ 32 :: v → x = y ∧ u = v := by
    intro x y u v hu hv e
    have h1 := lsp_tail x u hu
    have h2 := lsp_tail y v hv
    rw [e, h2] at h1
    have h3 : y.length = x.length := by omega
    have := List.append_inj e h3.symm
    exact ⟨this.1, by injection this.2⟩
  obtain ⟨N, hN⟩ : ∃ N, N = nm (smS 0 (recB a b p)) := ⟨_, rfl⟩
  have hp : 1 ≤ N.length := by rw [hN]; exact nm_pos _
  have hd := no32 (smS 0 (recB a b p))
  rw [← hN] at hd
  have e1 : s = recB a b p ++ 32 :: N := by rw [← h, hN]; rfl
  have e2 : s.take (s.length - 1) = recB a b p ++ 32 :: N.dropLast := by
    have e3 : s = (recB a b p ++ 32 :: N.dropLast) ++ [N.getLast (by intro e; rw [e] at hp; simp at hp)] := by
      rw [e1, List.append_assoc, List.cons_append, List.dropLast_concat_getLast]
    have e4 : s.length - 1 = (recB a b p ++ 32 :: N.dropLast).length := by rw [e3]; simp
    rw [e4]
    conv => lhs; rw [e3]
    rw [List.take_left]
  rw [e2] at k
  unfold recX at k
  obtain ⟨k1, k2⟩ := key _ _ _ _ (no32 _) (fun c hc => hd c (List.dropLast_subset _ hc)) k
  rw [k1, ← hN] at k2
  have := congrArg List.length k2
  rw [List.length_dropLast] at this
  omega

end Go.Proofs.YtbjlkdenkmbepaaGreatDoor

namespace Go.Proofs.YtbjlkdenkmbepaaGreatDoor
open Go.RowKit

open Classical in
/-- the change of which a text is the record, if there is one. -/
noncomputable def rdM (s : List UInt8) : Option Ch := if h : ∃ x : Nat × Nat × List UInt8, IsRec s x.1 x.2.1 x.2.2 then some ⟨h.choose.1, h.choose.2.1, h.choose.2.2⟩ else none
theorem rdM_some {s : List UInt8} {a b : Nat} {p : List UInt8} (h : IsRec s a b p) : rdM s = some ⟨a, b, p⟩ := by
  unfold rdM
  have hx : ∃ x : Nat × Nat × List UInt8, IsRec s x.1 x.2.1 x.2.2 := ⟨(a, b, p), h⟩
  rw [dif_pos hx]
  obtain ⟨h1, h2, h3⟩ := hx.choose_spec.uniq h
  rw [h1, h2, h3]
theorem rdM_none {s : List UInt8} (h : ¬ ∃ a b p, IsRec s a b p) : rdM s = none := by
  unfold rdM
  rw [dif_neg]
  rintro ⟨x, hx⟩
  exact h ⟨_, _, _, hx⟩
theorem rdM_rec {s : List UInt8} {x : Ch} (h : rdM s = some x) : ∃ a b : Nat, ∃ p, x = ⟨a, b, p⟩ ∧ IsRec s a b p := by
  unfold rdM at h
  split at h
  · rename_i hx
    injection h with h
    exact ⟨_, _, _, h.symm, hx.choose_spec⟩
  · cases h
/-- the text behind the records, and how many were played. -/
noncomputable def pl : List UInt8 → List (List UInt8) → List UInt8 × Nat
  | s, [] => (s, 0)
  | s, r :: rs => match rdM r with
    | none => (s, 0)
    | some x => if okF s x = true then ((pl (apF s x) rs).1, (pl (apF s x) rs).2 + 1) else (s, 0)
theorem pl_none {s r : List UInt8} (rs : List (List UInt8)) (h : rdM r = none) : pl s (r :: rs) = (s, 0) := by
  rw [pl, h]
theorem pl_bad {s r : List UInt8} {x : Ch} (rs : List (List UInt8)) (h : rdM r = some x) (hk : okF s x = false) : pl s (r :: rs) = (s, 0) := by
  rw [pl, h]
  simp [hk]
theorem pl_ok {s r : List UInt8} {x : Ch} (rs : List (List UInt8)) (h : rdM r = some x) (hk : okF s x = true) : pl s (r :: rs) = ((pl (apF s x) rs).1, (pl (apF s x) rs).2 + 1) := by
  rw [pl, h]
  simp [hk]
theorem pl_cases (s r : List UInt8) : (rdM r = none) ∨ (∃ x, rdM r = some x ∧ okF s x = false) ∨ ∃ x, rdM r = some x ∧ okF s x = true := by
  cases h : rdM r with
  | none => exact .inl rfl
  | some x =>
    cases hk : okF s x with
    | false => exact .inr (.inl ⟨x, rfl, hk⟩)
    | true => exact .inr (.inr ⟨x, rfl, hk⟩)
theorem pl_le : ∀ (l : List (List UInt8)) (s : List UInt8), (pl s l).2 ≤ l.length
  | [], s => Nat.le_refl _
  | r :: l, s => by
    rcases pl_cases s r with h | ⟨x, h, hk⟩ | ⟨x, h, hk⟩
    · rw [pl_none l h]; exact Nat.zero_le _
    · rw [pl_bad l h hk]; exact Nat.zero_le _
    · rw [pl_ok l h hk]
      have := pl_le l (apF s x)
      simp only [List.length_cons]
      omega
theorem pl_tv : ∀ (l : List (List UInt8)) (s : List UInt8), tv s = true → tv (pl s l).1 = true
  | [], s, h => h
  | r :: l, s, h => by
    rcases pl_cases s r with h1 | ⟨x, h1, hk⟩ | ⟨x, h1, hk⟩
    · rw [pl_none l h1]; exact h
    · rw [pl_bad l h1 hk]; exact h
    · rw [pl_ok l h1 hk]
      exact pl_tv l _ (okF_tv hk).2
theorem pl_all : ∀ (l m : List (List UInt8)) (s : List UInt8), (pl s l).2 = l.length → pl s (l ++ m) = ((pl (pl s l).1 m).1, l.length + (pl (pl s l).1 m).2)
  | [], m, s, _ => by simp [pl]
  | r :: l, m, s, h => by
    rcases pl_cases s r with h1 | ⟨x, h1, hk⟩ | ⟨x, h1, hk⟩
    · rw [pl_none l h1] at h; simp at h
    · rw [pl_bad l h1 hk] at h; simp at h
    · rw [pl_ok l h1 hk] at h ⊢
      simp only [List.length_cons, Nat.add_right_cancel_iff] at h
      rw [List.cons_append, pl_ok _ h1 hk, pl_all l m _ h]
      simp only [List.length_cons, Prod.mk.injEq, true_and]
      omega
theorem pl_stop : ∀ (l m : List (List UInt8)) (s : List UInt8), (pl s l).2 < l.length → pl s (l ++ m) = pl s l
  | [], m, s, h => by simp at h
  | r :: l, m, s, h => by
    rcases pl_cases s r with h1 | ⟨x, h1, hk⟩ | ⟨x, h1, hk⟩
    · rw [List.cons_append, pl_none _ h1, pl_none _ h1]
    · rw [List.cons_append, pl_bad _ h1 hk, pl_bad _ h1 hk]
    · rw [pl_ok l h1 hk] at h
      simp only [List.length_cons, Nat.add_lt_add_iff_right] at h
      rw [List.cons_append, pl_ok _ h1 hk, pl_ok _ h1 hk, pl_stop l m _ h]

end Go.Proofs.YtbjlkdenkmbepaaGreatDoor

namespace Go.Proofs.YtbjlkdenkmbepaaGreatDoor
open Go.RowKit

/-- a change that fits a text has a record. -/
theorem okF_rec {s : List UInt8} {x : Ch} (h : okF s x = true) : rdM (recT x.a x.c x.p) = some x := by
  have hi := okF_in h
  have hp := okF_put h
  have ht := tv_len (okF_tv h).1
  have htp : tv x.p = true := by
    have h2 := h
    unfold okF chOk at h2
    simp only [Bool.and_eq_true] at h2
    unfold tv
    simp only [Bool.and_eq_true, decide_eq_true_eq]
    exact ⟨h2.1.2, hp⟩
  obtain ⟨xa, xc, xp⟩ := x
  simp only at hi hp htp ⊢
  have hk : recOk xa xc xp = true := by
    unfold recOk
    simp only [Bool.and_eq_true, inB_iff]
    exact ⟨⟨by omega, by omega⟩, htp⟩
  have hr : IsRec (recT xa xc xp) xa.toNat xc.toNat xp := ⟨by omega, by omega, htp, by unfold recT; rw [if_pos hk]⟩
  rw [rdM_some hr, Int.toNat_of_nonneg hi.1, Int.toNat_of_nonneg hi.2.2.1]
/-- the records that lead to a state. -/
def hrF (ms : List Mo) : Nat → Int → List (List UInt8)
  | 0, _ => []
  | n + 1, k => if 0 < k then hrF ms n (ms.getD k.toNat m0).par ++ [recT (ms.getD k.toNat m0).f.a (ms.getD k.toNat m0).f.c (ms.getD k.toNat m0).f.p] else []
theorem hrF_zero (ms : List Mo) (n : Nat) {k : Int} (h : ¬ 0 < k) : hrF ms n k = [] := by
  cases n with
  | zero => rfl
  | succ n => rw [hrF, if_neg h]
theorem hrF_step (ms : List Mo) (n : Nat) {k : Int} (h : 0 < k) : hrF ms (n + 1) k = hrF ms n (ms.getD k.toNat m0).par ++ [recT (ms.getD k.toNat m0).f.a (ms.getD k.toNat m0).f.c (ms.getD k.toNat m0).f.p] := by rw [hrF, if_pos h]
theorem hrF_len (ms : List Mo) : ∀ (n : Nat) (k : Int), (hrF ms n k).length ≤ n
  | 0, _ => Nat.le_refl _
  | n + 1, k => by
    rw [hrF]
    split
    · have := hrF_len ms n (ms.getD k.toNat m0).par
      rw [List.length_append]
      exact Nat.succ_le_succ this
    · exact Nat.zero_le _
/-- the records lead from the first text to the text of the state, and no more of them than the state's number. -/
theorem hrF_play {ms : List Mo} {a : Int} {s : List UInt8} {o : List (List UInt8)} (h : HGood ms a s o) : ∀ (n k : Nat), k ≤ n → k < ms.length → pl (o.getD 0 []) (hrF ms n k) = (o.getD k [], (hrF ms n k).length) ∧ (hrF ms n k).length ≤ k
  | 0, k, hk, hn => by
    obtain rfl : k = 0 := by omega
    exact ⟨rfl, Nat.le_refl _⟩
  | n + 1, k, hk, hn => by
    by_cases h0 : 0 < k
    · obtain ⟨h1, h2, h3, h4, h5⟩ := h.step k h0 hn
      rw [hrF_step ms n (show (0 : Int) < (k : Int) by omega), Int.toNat_natCast]
      obtain ⟨q, hq⟩ : ∃ q : Nat, (ms.getD k m0).par = q := ⟨(ms.getD k m0).par.toNat, by omega⟩
      rw [hq] at h1 h2 h3 h4 h5 ⊢
      rw [Int.toNat_natCast] at h3 h4 h5
      obtain ⟨i1, i2⟩ := hrF_play h n q (by omega) (by omega)
      have hr := okF_rec h3
      have i3 : (pl (o.getD 0 []) (hrF ms n q)).2 = (hrF ms n q).length := by rw [i1]
      rw [pl_all _ _ _ i3, i1]
      simp only
      rw [pl_ok [] hr h3]
      refine ⟨?_, by simp; omega⟩
      simp only [pl, List.length_append, List.length_cons, List.length_nil, Prod.mk.injEq, and_true]
      first | exact h4.symm | exact h5.symm | exact h4 | exact h5
    · obtain rfl : k = 0 := by omega
      rw [hrF_zero ms _ (by omega)]
      exact ⟨rfl, Nat.le_refl _⟩

end Go.Proofs.YtbjlkdenkmbepaaGreatDoor

namespace Go.Proofs.YtbjlkdenkmbepaaGreatDoor
open Go.RowKit

theorem takeWhile_stop {p : UInt8 → Bool} : ∀ (l m : List UInt8), (∀ c ∈ l, p c = true) → (∀ c, m.head? = some c → p c = false) → (l ++ m).takeWhile p = l
  | [], [], _, _ => rfl
  | [], c :: m, _, h => by rw [List.nil_append, List.takeWhile_cons_of_neg (by simp [h c rfl])]
  | x :: l, m, h, k => by
    rw [List.cons_append, List.takeWhile_cons_of_pos (h x (by simp)), takeWhile_stop l m (fun c hc => h c (by simp [hc])) k]
/-- the digits read so far are all of them. -/
theorem dgs_end {s : List UInt8} {k j : Nat} (hj : j ≤ 4) (hd : ∀ c ∈ (s.drop k).take j, dgB c = true) (hs : j = 4 ∨ k + j = s.length ∨ ∃ h : k + j < s.length, dgB s[k + j] = false) : dgs s k = (s.drop k).take j := by
  unfold dgs
  have e : (s.drop k).take 4 = (s.drop k).take j ++ (((s.drop k).drop j).take (4 - j)) := by
    rw [← List.take_add]
    congr 1
    omega
  rw [e]
  refine takeWhile_stop _ _ hd fun c hc => ?_
  rcases hs with h | h | ⟨h, h2⟩
  · rw [h] at hc
    simp at hc
  · rw [List.drop_drop, List.drop_of_length_le (by omega)] at hc
    simp at hc
  · rw [List.drop_drop, List.drop_eq_getElem_cons h] at hc
    cases h4 : 4 - j with
    | zero => rw [h4] at hc; simp at hc
    | succ n =>
      rw [h4, List.take_succ_cons, List.head?_cons] at hc
      injection hc with hc
      rw [← hc]
      exact h2
theorem vl_step {s : List UInt8} {k j : Nat} (h : k + j < s.length) : vl 0 ((s.drop k).take (j + 1)) = 10 * vl 0 ((s.drop k).take j) + ((s[k + j]).toNat - 48) := by
  rw [List.take_succ_eq_append_getElem (by rw [List.length_drop]; omega), vl_snoc]
  congr 2
  rw [List.getElem_drop]
theorem dg_more {s : List UInt8} {k j : Nat} (h : k + j < s.length) (hd : ∀ c ∈ (s.drop k).take j, dgB c = true) (hc : dgB s[k + j] = true) : ∀ c ∈ (s.drop k).take (j + 1), dgB c = true := by
  intro c hm
  rw [List.take_succ_eq_append_getElem (by rw [List.length_drop]; omega), List.mem_append] at hm
  rcases hm with hm | hm
  · exact hd c hm
  · rw [List.mem_singleton.1 hm, List.getElem_drop]
    exact hc
theorem vl_lt (l : List UInt8) : ∀ n, (∀ c ∈ l, dgB c = true) → vl n l < (n + 1) * 10 ^ l.length := by
  induction l with
  | nil =>
    intro n _
    show n < (n + 1) * 1
    omega
  | cons c l ih =>
    intro n h
    have hc := h c (by simp)
    unfold dgB at hc
    rw [Bool.and_eq_true, decide_eq_true_eq, decide_eq_true_eq] at hc
    have h2 := ih (10 * n + (c.toNat - 48)) fun d hd => h d (by simp [hd])
    show vl (10 * n + (c.toNat - 48)) l < _
    rw [List.length_cons, Nat.pow_succ]
    refine Nat.lt_of_lt_of_le h2 ?_
    rw [Nat.mul_comm (10 ^ l.length) 10, ← Nat.mul_assoc]
    exact Nat.mul_le_mul_right _ (by omega)
theorem vl_four {s : List UInt8} {k j : Nat} (hj : j ≤ 4) (hd : ∀ c ∈ (s.drop k).take j, dgB c = true) : vl 0 ((s.drop k).take j) < 10000 := by
  have h := vl_lt _ 0 hd
  have hl : ((s.drop k).take j).length ≤ 4 := by rw [List.length_take]; omega
  have : 10 ^ ((s.drop k).take j).length ≤ 10 ^ 4 := Nat.pow_le_pow_right (by omega) hl
  omega

end Go.Proofs.YtbjlkdenkmbepaaGreatDoor

namespace Go.Proofs.YtbjlkdenkmbepaaGreatDoor
open Go.RowKit

theorem dgs_len (s : List UInt8) (k : Nat) : (dgs s k).length ≤ 4 ∧ (dgs s k).length ≤ s.length - k := by
  unfold dgs
  have h := (List.takeWhile_sublist (l := (s.drop k).take 4) dgB).length_le
  rw [List.length_take, List.length_drop] at h
  omega
theorem vAt_le {s : List UInt8} {k : Nat} (h : k ≤ s.length) : k ≤ (vAt s k).2 ∧ (vAt s k).2 ≤ s.length := by
  have hd := dgs_len s k
  unfold vAt
  split
  · simp only; omega
  · rename_i h2
    have h3 : ¬ s[k + (dgs s k).length]? ≠ some 32 := fun h3 => h2 (.inr h3)
    rw [ne_eq, Decidable.not_not] at h3
    have := (List.getElem?_eq_some_iff.1 h3).1
    simp only
    omega
theorem vAt_val (s : List UInt8) (k : Nat) : -1 ≤ (vAt s k).1 ∧ (vAt s k).1 < 10000 := by
  unfold vAt
  split
  · simp
  · have hv : vl 0 (dgs s k) < 10000 := by
      have hd := dgs_len s k
      have ha : ∀ c ∈ dgs s k, dgB c = true := fun c hc => by
        unfold dgs at hc
        have := List.all_eq_true.1 (List.all_takeWhile (l := (s.drop k).take 4) (p := dgB)) c hc
        exact this
      have h := vl_lt _ 0 ha
      have : 10 ^ (dgs s k).length ≤ 10 ^ 4 := Nat.pow_le_pow_right (by omega) hd.1
      omega
    simp only
    omega
/-- the change that a text is the record of, or the zero one. -/
noncomputable def rdC (s : List UInt8) : Ch := (rdM s).getD c0
noncomputable def rdB (s : List UInt8) : Bool := (rdM s).isSome
theorem rd_no {s : List UInt8} (h : rdM s = none) : rdC s = c0 ∧ rdB s = false := by simp [rdC, rdB, h]
theorem rd_yes {s : List UInt8} {x : Ch} (h : rdM s = some x) : rdC s = x ∧ rdB s = true := by simp [rdC, rdB, h]
theorem not_rec {s : List UInt8} (h : ∀ a b p, IsRec s a b p → False) : rdM s = none := rdM_none fun ⟨a, b, p, k⟩ => h a b p k
theorem rec_no1 {s : List UInt8} (h : (vAt s 0).1 < 0 ∨ (vAt s (vAt s 0).2).1 < 0 ∨ (lsp s : Int) - 1 < (vAt s (vAt s 0).2).2) : rdM s = none := by
  refine not_rec fun a b p k => ?_
  obtain ⟨h1, h2, h3, _⟩ := k.parts
  rw [h1] at h
  simp only at h
  rw [h2] at h
  simp only at h
  rw [h3] at h
  omega
theorem rec_mid {s : List UInt8} (h : recT (vAt s 0).1 (vAt s (vAt s 0).2).1 (uneA s (lsp s - 1) (vAt s (vAt s 0).2).2) ≠ s ∨ s = []) : rdM s = none := by
  refine not_rec fun a b p k => ?_
  obtain ⟨h1, h2, h3, h4⟩ := k.parts
  obtain ⟨t1, t2⟩ := k.text
  rcases h with h | h
  · refine h ?_
    rw [h1]
    simp only
    rw [h2]
    simp only
    unfold uneA
    rw [h3, Nat.add_sub_cancel, h4, une_esc]
    exact t1
  · exact t2 h
theorem rec_yes {s : List UInt8} {a b : Int} {p : List UInt8} (h : recT a b p = s) (hs : s ≠ []) : rdM s = some ⟨a, b, p⟩ := by
  obtain ⟨h1, h2, h3⟩ := IsRec.of h hs
  have := rdM_some h1
  rwa [Int.toNat_of_nonneg h2, Int.toNat_of_nonneg h3] at this
theorem une_len : ∀ l : List UInt8, (une l).length ≤ l.length
  | [] => Nat.le_refl _
  | [_] => Nat.le_refl _
  | c :: d :: l => by
    rw [une]
    split
    · have := une_len l
      simp only [List.length_cons]; omega
    · have := une_len (d :: l)
      simp only [List.length_cons] at this ⊢; omega
theorem uneA_len (s : List UInt8) (e k : Nat) : (uneA s e k).length ≤ s.length := by
  unfold uneA
  have := une_len ((s.take e).drop k)
  rw [List.length_drop, List.length_take] at this
  omega

end Go.Proofs.YtbjlkdenkmbepaaGreatDoor
