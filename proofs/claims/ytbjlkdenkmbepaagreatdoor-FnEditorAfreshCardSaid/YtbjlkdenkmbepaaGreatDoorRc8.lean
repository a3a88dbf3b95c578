/- What is proved here: What is proved here: the contract of markText. What is proved here: What is proved here: plain facts on how a record's bytes are read, and on records that lack their last byte. What is proved here: plain facts on records that are played. What is proved here: plain facts on the records of a history. What is proved here: plain facts on how a number of a record is read, digit by digit. What is proved here: plain facts: which change the parts of a text lead to. What is proved here: What is proved here: contracts of the reference's numbers and sums, and of the program's sums. What is proved here: the contract of the reference's l22Value. What is proved here: the contract of the reference's RecordText. No condition. -/
import Derived.Test.YtbjlkdenkmbepaaGreatDoorBase
import Derived.Test.YtbjlkdenkmbepaaGreatDoorAc1
import Derived.Test.YtbjlkdenkmbepaaGreatDoorAc0
namespace Go.Proofs.YtbjlkdenkmbepaaGreatDoor
open Go.RowKit

/-- a digit. -/
def dg (q : Nat) : UInt8 := UInt8.ofNat (48 + q % 10)
theorem dg_toNat (q : Nat) : ((dg q).toNat : Int) = 48 + (q : Int) % 10 := by unfold dg; rw [UInt8.toNat_ofNat']; omega
def mt : Nat → Nat → List UInt8 → List UInt8
  | 0, _, o => o
  | f + 1, k, o => if k = 0 then o else mt f (k / 10) (dg k :: o)
/-- the text of mark k. -/
def mtx (k : Nat) : List UInt8 := 109 :: mt k k []

def MarkPost (k : Nat) (w : World) (e : Ending) (w' : World) : Prop := e = .returned (S (mtx k)) ∧ Below w.heap.size w w'

theorem mt_len : ∀ (f q : Nat) (o : List UInt8), (mt f q o).length ≤ f + o.length
  | 0, _, o => by simp [mt]
  | f + 1, q, o => by
    unfold mt
    split
    · omega
    · have := mt_len f (q / 10) (dg q :: o)
      simp at this
      omega
theorem mt_zero (f : Nat) (o : List UInt8) : mt f 0 o = o := by cases f <;> simp [mt]
theorem mt_step (f q : Nat) (o : List UInt8) (hq : 0 < q) (hf : q ≤ f) : ∃ f', f = f' + 1 ∧ q / 10 ≤ f' ∧ mt f q o = mt f' (q / 10) (dg q :: o) := by
  cases f with
  | zero => omega
  | succ f => exact ⟨f, rfl, by omega, by rw [mt, if_neg (by omega)]⟩

/-- one digit as a string. -/
theorem digit_str (w : World) (q : Nat) : (convert 22 9 (.slice (some ⟨w.heap.size, 0, none⟩) 1 1)).run Tryz.prog (w.alloc (.cells #[.int .u8 (48 + (q : Int) % 10)] 5)) =
    .ok (.string ⟨[dg q].toArray⟩) (w.alloc (.cells #[.int .u8 (48 + (q : Int) % 10)] 5)) := by
  refine run_convert_bytes_back (l := [dg q]) _ _ _ _ _ _ Tryz.underlying22 Tryz.underlying5 Tryz.underlying9 (fun j hj => ?_)
  obtain rfl : j = 0 := by simp at hj; omega
  simp only [List.getElem_cons_zero, dg_toNat]
  have := cells_new w [.int .u8 (48 + (q : Int) % 10)] 5 0 _ rfl
  exact this

set_option maxRecDepth 100000 in
set_option maxHeartbeats 400000 in
theorem markText_any (k : Nat) (w : World) (h0 : 1 ≤ k) (h1 : k ≤ 10000000) :
    Calls Tryz.prog 69 #[.int .i64 k] w (MarkPost k w) := by
  have hk : ¬ (k : Int) ≤ 0 := by omega
  have hd := digit_str
  go_enter Tryz.func69, Tryz.ntmps69
  go_wp2_with fail
  go_loopw [0, 3] (fun i s wr => ∃ (f q : Nat) (o : List UInt8), q ≤ f ∧ q ≤ 10000000 ∧ o.length + q ≤ 10000000 ∧ i = .int .i64 q ∧ s = S o ∧ Hid (mt k k [] = mt f q o) ∧ Below w.heap.size w wr) (fun i _ _ => (intOf i).toNat)
  case atStart => exact ⟨k, k, [], Nat.le_refl _, h1, by simpa using h1, rfl, rfl, Lib.hid rfl, Below.refl _ _⟩
  case round =>
    obtain ⟨f, q, o, hq, hq2, ho, rfl, rfl, heq, hW⟩ := hrel
    by_cases hlt : 0 < q
    · have i1 : (0 : Int) < (q : Int) := by omega
      obtain ⟨f', rfl, hf', hst⟩ := mt_step f q o hlt hq
      have HS := Lib.hid hst
      clear hst
      go_wp2_with fail
      go_roundw
      case rel => exact ⟨f', q / 10, dg q :: o, hf', by omega, by simp; omega, by go_num, rfl, Lib.hid (by rw [heq.out, HS.out]), by (repeat (first | exact Below.refl _ _ | assumption | refine Below.drew ?_ | refine up_drewN ?_ _ | refine up_alloc ?_ _ | refine up_set ?_ _ _ (by first | exact Nat.le_refl _ | (simp; done) | (simp; omega) | omega) | refine up_trans ?_ (by assumption)))⟩
      case measure => simp [intOf]; omega
    · obtain rfl : q = 0 := by omega
      have HE := Lib.hid (show mtx k = 109 :: o by unfold mtx; rw [heq.out, mt_zero])
      go_wp2_with fail
      go_ret
      rw [MarkPost, HE.out]
      exact ⟨rfl, hW⟩

end Go.Proofs.YtbjlkdenkmbepaaGreatDoor

namespace Go.Proofs.YtbjlkdenkmbepaaGreatDoor
open Go.RowKit

/-- what the bytes from k on, up to e, stand for. -/
def uneA (s : List UInt8) (e k : Nat) : List UInt8 := une ((s.take e).drop k)
theorem uneA_end (s : List UInt8) {e k : Nat} (h : e ≤ k) : uneA s e k = [] := by
  unfold uneA
  rw [List.drop_of_length_le (by rw [List.length_take]; omega)]
  rfl
theorem uneA_drop (s : List UInt8) {e k : Nat} (h : k < e) (he : e ≤ s.length) : (s.take e).drop k = s[k] :: (s.take e).drop (k + 1) := by
  rw [List.drop_eq_getElem_cons (by rw [List.length_take]; omega), List.getElem_take]
theorem uneA_two (s : List UInt8) {e k : Nat} (h : k + 1 < e) (he : e ≤ s.length) (hc : s[k] = 92) : uneA s e k = (if s[k + 1] = 110 then 10 else s[k + 1]) :: uneA s e (k + 2) := by
  unfold uneA
  rw [uneA_drop s (show k < e by omega) he, uneA_drop s h he, une, if_pos hc]
theorem uneA_one (s : List UInt8) {e k : Nat} (h : k < e) (he : e ≤ s.length) (hc : ¬ (s[k] = 92 ∧ k + 1 < e)) : uneA s e k = s[k] :: uneA s e (k + 1) := by
  unfold uneA
  rw [uneA_drop s h he]
  by_cases h2 : k + 1 < e
  · rw [uneA_drop s h2 he, une, if_neg (fun h3 => hc ⟨h3, h2⟩)]
  · rw [List.drop_of_length_le (by rw [List.length_take]; omega)]
    rfl
/-- a record without its last byte is no record. -/
theorem IsRec.less {s : List UInt8} {a b c d : Nat} {p q : List UInt8} (h : IsRec s a b p) : ¬ IsRec (s.take (s.length - 1)) c d q := by
  rintro ⟨_, _, _, k⟩
  obtain ⟨_, _, _, h⟩ := h
  have key : ∀ (x y : List UInt8) (u v : List UInt8), (∀ c ∈ u, c ≠ 32) → (∀ c ∈ v, c ≠ 32) → x ++ 32 :: u = y ++ 32 :: v → x = y ∧ u = v := by
    intro x y u v hu hv e
    have h1 := lsp_tail x u hu
    have h2 := lsp_tail y v hv
    rw [e, h2] at h1
    have h3 : y.length = x.length := by omega
    have := List.append_inj e h3.symm
    exact ⟨this.1, by injection this.2⟩
  obtain ⟨N, hN⟩ : ∃ N, N = nm (smS 0 (recB a b p)) := ⟨_, rfl⟩
  have hp : 1 ≤ N.length := by rw [hN]; exact nm_pos _
  have hd := no32 (smS 0 (recB a b p))
  rw [← hN] at hd
  have e1 : s = recB a b p ++ 32 :: N := by rw [← h, hN]; rfl
  have e2 : s.take (s.length - 1) = recB a b p ++ 32 :: N.dropLast := by
    have e3 : s = (recB a b p ++ 32 :: N.dropLast) ++ [N.getLast (by intro e; rw [e] at hp; simp at hp)] := by
      rw [e1, List.append_assoc, List.cons_append, List.dropLast_concat_getLast]
    have e4 : s.length - 1 = (recB a b p ++ 32 :: N.dropLast).length := by rw [e3]; simp
    rw [e4]
    conv => lhs; rw [e3]
    rw [List.take_left]
  rw [e2] at k
  unfold recX at k
  obtain ⟨k1, k2⟩ := key _ _ _ _ (no32 _) (fun c hc => hd c (List.dropLast_subset _ hc)) k
  rw [k1, ← hN] at k2
  have := congrArg List.length k2
  rw [List.length_dropLast] at this
  omega

end Go.Proofs.YtbjlkdenkmbepaaGreatDoor

namespace Go.Proofs.YtbjlkdenkmbepaaGreatDoor
open Go.RowKit

open Classical in
/-- the change of which a text is the record, if there is one. -/
noncomputable def rdM (s : List UInt8) : Option Ch := if h : ∃ x : Nat × Nat × List UInt8, IsRec s x.1 x.2.1 x.2.2 then some ⟨h.choose.1, h.choose.2.1, h.choose.2.2⟩ else none
theorem rdM_some {s : List UInt8} {a b : Nat} {p : List UInt8} (h : IsRec s a b p) : rdM s = some ⟨a, b, p⟩ := by
  unfold rdM
  have hx : ∃ x : Nat × Nat × List UInt8, IsRec s x.1 x.2.1 x.2.2 := ⟨(a, b, p), h⟩
  rw [dif_pos hx]
  obtain ⟨h1, h2, h3⟩ := hx.choose_spec.uniq h
  rw [h1, h2, h3]
theorem rdM_none {s : List UInt8} (h : ¬ ∃ a b p, IsRec s a b p) : rdM s = none := by
  unfold rdM
  rw [dif_neg]
  rintro ⟨x, hx⟩
  exact h ⟨_, _, _, hx⟩
theorem rdM_rec {s : List UInt8} {x : Ch} (h : rdM s = some x) : ∃ a b : Nat, ∃ p, x = ⟨a, b, p⟩ ∧ IsRec s a b p := by
  unfold rdM at h
  split at h
  · rename_i hx
    injection h with h
    exact ⟨_, _, _, h.symm, hx.choose_spec⟩
  · cases h
/-- the text behind the records, and how many were played. -/
noncomputable def pl : List UInt8 → List (List UInt8) → List UInt8 × Nat
  | s, [] => (s, 0)
  | s, r :: rs => match rdM r with
    | none => (s, 0)
    | some x => if okF s x = true then ((pl (apF s x) rs).1, (pl (apF s x) rs).2 + 1) else (s, 0)
theorem pl_none {s r : List UInt8} (rs : List (List UInt8)) (h : rdM r = none) : pl s (r :: rs) = (s, 0) := by
  rw [pl, h]
theorem pl_bad {s r : List UInt8} {x : Ch} (rs : List (List UInt8)) (h : rdM r = some x) (hk : okF s x = false) : pl s (r :: rs) = (s, 0) := by
  rw [pl, h]
  simp [hk]
theorem pl_ok {s r : List UInt8} {x : Ch} (rs : List (List UInt8)) (h : rdM r = some x) (hk : okF s x = true) : pl s (r :: rs) = ((pl (apF s x) rs).1, (pl (apF s x) rs).2 + 1) := by
  rw [pl, h]
  simp [hk]
theorem pl_cases (s r : List UInt8) : (rdM r = none) ∨ (∃ x, rdM r = some x ∧ okF s x = false) ∨ ∃ x, rdM r = some x ∧ okF s x = true := by
  cases h : rdM r with
  | none => exact .inl rfl
  | some x =>
    cases hk : okF s x with
    | false => exact .inr (.inl ⟨x, rfl, hk⟩)
    | true => exact .inr (.inr ⟨x, rfl, hk⟩)
theorem pl_le : ∀ (l : List (List UInt8)) (s : List UInt8), (pl s l).2 ≤ l.length
  | [], s => Nat.le_refl _
  | r :: l, s => by
    rcases pl_cases s r with h | ⟨x, h, hk⟩ | ⟨x, h, hk⟩
    · rw [pl_none l h]; exact Nat.zero_le _
    · rw [pl_bad l h hk]; exact Nat.zero_le _
    · rw [pl_ok l h hk]
      have := pl_le l (apF s x)
      simp only [List.length_cons]
      omega
theorem pl_tv : ∀ (l : List (List UInt8)) (s : List UInt8), tv s = true → tv (pl s l).1 = true
  | [], s, h => h
  | r :: l, s, h => by
    rcases pl_cases s r with h1 | ⟨x, h1, hk⟩ | ⟨x, h1, hk⟩
    · rw [pl_none l h1]; exact h
    · rw [pl_bad l h1 hk]; exact h
    · rw [pl_ok l h1 hk]
      exact pl_tv l _ (okF_tv hk).2
theorem pl_all : ∀ (l m : List (List UInt8)) (s : List UInt8), (pl s l).2 = l.length → pl s (l ++ m) = ((pl (pl s l).1 m).1, l.length + (pl (pl s l).1 m).2)
  | [], m, s, _ => by simp [pl]
  | r :: l, m, s, h => by
    rcases pl_cases s r with h1 | ⟨x, h1, hk⟩ | ⟨x, h1, hk⟩
    · rw [pl_none l h1] at h; simp at h
    · rw [pl_bad l h1 hk] at h; simp at h
    · rw [pl_ok l h1 hk] at h ⊢
      simp only [List.length_cons, Nat.add_right_cancel_iff] at h
      rw [List.cons_append, pl_ok _ h1 hk, pl_all l m _ h]
      simp only [List.length_cons, Prod.mk.injEq, true_and]
      omega
theorem pl_stop : ∀ (l m : List (List UInt8)) (s : List UInt8), (pl s l).2 < l.length → pl s (l ++ m) = pl s l
  | [], m, s, h => by simp at h
  | r :: l, m, s, h => by
    rcases pl_cases s r with h1 | ⟨x, h1, hk⟩ | ⟨x, h1, hk⟩
    · rw [List.cons_append, pl_none _ h1, pl_none _ h1]
    · rw [List.cons_append, pl_bad _ h1 hk, pl_bad _ h1 hk]
    · rw [pl_ok l h1 hk] at h
      simp only [List.length_cons, Nat.add_lt_add_iff_right] at h
      rw [List.cons_append, pl_ok _ h1 hk, pl_ok _ h1 hk, pl_stop l m _ h]

end Go.Proofs.YtbjlkdenkmbepaaGreatDoor

namespace Go.Proofs.YtbjlkdenkmbepaaGreatDoor
open Go.RowKit

/-- a change that fits a text has a record. -/
theorem okF_rec {s : List UInt8} {x : Ch} (h : okF s x = true) : rdM (recT x.a x.c x.p) = some x := by
  have hi := okF_in h
  have hp := okF_put h
  have ht := tv_len (okF_tv h).1
  have htp : tv x.p = true := by
    have h2 := h
    unfold okF chOk at h2
    simp only [Bool.and_eq_true] at h2
    unfold tv
    simp only [Bool.and_eq_true, decide_eq_true_eq]
    exact ⟨h2.1.2, hp⟩
  obtain ⟨xa, xc, xp⟩ := x
  simp only at hi hp htp ⊢
  have hk : recOk xa xc xp = true := by
    unfold recOk
    simp only [Bool.and_eq_true, inB_iff]
    exact ⟨⟨by omega, by omega⟩, htp⟩
  have hr : IsRec (recT xa xc xp) xa.toNat xc.toNat xp := ⟨by omega, by omega, htp, by unfold recT; rw [if_pos hk]⟩
  rw [rdM_some hr, Int.toNat_of_nonneg hi.1, Int.toNat_of_nonneg hi.2.2.1]
/-- the records that lead to a state. -/
def hrF (ms : List Mo) : Nat → Int → List (List UInt8)
  | 0, _ => []
  | n + 1, k => if 0 < k then hrF ms n (ms.getD k.toNat m0).par ++ [recT (ms.getD k.toNat m0).f.a (ms.getD k.toNat m0).f.c (ms.getD k.toNat m0).f.p] else []
theorem hrF_zero (ms : List Mo) (n : Nat) {k : Int} (h : ¬ 0 < k) : hrF ms n k = [] := by
  cases n with
  | zero => rfl
  | succ n => rw [hrF, if_neg h]
theorem hrF_step (ms : List Mo) (n : Nat) {k : Int} (h : 0 < k) : hrF ms (n + 1) k = hrF ms n (ms.getD k.toNat m0).par ++ [recT (ms.getD k.toNat m0).f.a (ms.getD k.toNat m0).f.c (ms.getD k.toNat m0).f.p] := by rw [hrF, if_pos h]
theorem hrF_len (ms : List Mo) : ∀ (n : Nat) (k : Int), (hrF ms n k).length ≤ n
  | 0, _ => Nat.le_refl _
  | n + 1, k => by
    rw [hrF]
    split
    · have := hrF_len ms n (ms.getD k.toNat m0).par
      rw [List.length_append]
      exact Nat.succ_le_succ this
    · exact Nat.zero_le _
/-- the records lead from the first text to the text of the state, and no more of them than the state's number. -/
theorem hrF_play {ms : List Mo} {a : Int} {s : List UInt8} {o : List (List UInt8)} (h : HGood ms a s o) : ∀ (n k : Nat), k ≤ n → k < ms.length → pl (o.getD 0 []) (hrF ms n k) = (o.getD k [], (hrF ms n k).length) ∧ (hrF ms n k).length ≤ k
  | 0, k, hk, hn => by
    obtain rfl : k = 0 := by omega
    exact ⟨rfl, Nat.le_refl _⟩
  | n + 1, k, hk, hn => by
    by_cases h0 : 0 < k
    · obtain ⟨h1, h2, h3, h4, h5⟩ := h.step k h0 hn
      rw [hrF_step ms n (show (0 : Int) < (k : Int) by omega), Int.toNat_natCast]
      obtain ⟨q, hq⟩ : ∃ q : Nat, (ms.getD k m0).par = q := ⟨(ms.getD k m0).par.toNat, by omega⟩
      rw [hq] at h1 h2 h3 h4 h5 ⊢
      rw [Int.toNat_natCast] at h3 h4 h5
      obtain ⟨i1, i2⟩ := hrF_play h n q (by omega) (by omega)
      have hr := okF_rec h3
      have i3 : (pl (o.getD 0 []) (hrF ms n q)).2 = (hrF ms n q).length := by rw [i1]
      rw [pl_all _ _ _ i3, i1]
      simp only
      rw [pl_ok [] hr h3]
      refine ⟨?_, by simp; omega⟩
      simp only [pl, List.length_append, List.length_cons, List.length_nil, Prod.mk.injEq, and_true]
      first | exact h4.symm | exact h5.symm | exact h4 | exact h5
    · obtain rfl : k = 0 := by omega
      rw [hrF_zero ms _ (by omega)]
      exact ⟨rfl, Nat.le_refl _⟩

end Go.Proofs.YtbjlkdenkmbepaaGreatDoor

namespace Go.Proofs.YtbjlkdenkmbepaaGreatDoor
open Go.RowKit

theorem takeWhile_stop {p : UInt8 → Bool} : ∀ (l m : List UInt8), (∀ c ∈ l, p c = true) → (∀ c, m.head? = some c → p c = false) → (l ++ m).takeWhile p = l
  | [], [], _, _ => rfl
  | [], c :: m, _, h => by rw [List.nil_append, List.takeWhile_cons_of_neg (by simp [h c rfl])]
  | x :: l, m, h, k => by
    rw [List.cons_append, List.takeWhile_cons_of_pos (h x (by simp)), takeWhile_stop l m (fun c hc => h c (by simp [hc])) k]
/-- the digits read so far are all of them. -/
theorem dgs_end {s : List UInt8} {k j : Nat} (hj : j ≤ 4) (hd : ∀ c ∈ (s.drop k).take j, dgB c = true) (hs : j = 4 ∨ k + j = s.length ∨ ∃ h : k + j < s.length, dgB s[k + j] = false) : dgs s k = (s.drop k).take j := by
  unfold dgs
  have e : (s.drop k).take 4 = (s.drop k).take j ++ (((s.drop k).drop j).take (4 - j)) := by
    rw [← List.take_add]
    congr 1
    omega
  rw [e]
  refine takeWhile_stop _ _ hd fun c hc => ?_
  rcases hs with h | h | ⟨h, h2⟩
  · rw [h] at hc
    simp at hc
  · rw [List.drop_drop, List.drop_of_length_le (by omega)] at hc
    simp at hc
  · rw [List.drop_drop, List.drop_eq_getElem_cons h] at hc
    cases h4 : 4 - j with
    | zero => rw [h4] at hc; simp at hc
    | succ n =>
      rw [h4, List.take_succ_cons, List.head?_cons] at hc
      injection hc with hc
      rw [← hc]
      exact h2
theorem vl_step {s : List UInt8} {k j : Nat} (h : k + j < s.length) : vl 0 ((s.drop k).take (j + 1)) = 10 * vl 0 ((s.drop k).take j) + ((s[k + j]).toNat - 48) := by
  rw [List.take_succ_eq_append_getElem (by rw [List.length_drop]; omega), vl_snoc]
  congr 2
  rw [List.getElem_drop]
theorem dg_more {s : List UInt8} {k j : Nat} (h : k + j < s.length) (hd : ∀ c ∈ (s.drop k).take j, dgB c = true) (hc : dgB s[k + j] = true) : ∀ c ∈ (s.drop k).take (j + 1), dgB c = true := by
  intro c hm
  rw [List.take_succ_eq_append_getElem (by rw [List.length_drop]; omega), List.mem_append] at hm
  rcases hm with hm | hm
  · exact hd c hm
  · rw [List.mem_singleton.1 hm, List.getElem_drop]
    exact hc
theorem vl_lt (l : List UInt8) : ∀ n, (∀ c ∈ l, dgB c = true) → vl n l < (n + 1) * 10 ^ l.length := by
  induction l with
  | nil =>
    intro n _
    show n < (n + 1) * 1
    omega
  | cons c l ih =>
    intro n h
    have hc := h c (by simp)
    unfold dgB at hc
    rw [Bool.and_eq_true, decide_eq_true_eq, decide_eq_true_eq] at hc
    have h2 := ih (10 * n + (c.toNat - 48)) fun d hd => h d (by simp [hd])
    show vl (10 * n + (c.toNat - 48)) l < _
    rw [List.length_cons, Nat.pow_succ]
    refine Nat.lt_of_lt_of_le h2 ?_
    rw [Nat.mul_comm (10 ^ l.length) 10, ← Nat.mul_assoc]
    exact Nat.mul_le_mul_right _ (by omega)
theorem vl_four {s : List UInt8} {k j : Nat} (hj : j ≤ 4) (hd : ∀ c ∈ (s.drop k).take j, dgB c = true) : vl 0 ((s.drop k).take j) < 10000 := by
  have h := vl_lt _ 0 hd
  have hl : ((s.drop k).take j).length ≤ 4 := by rw [List.length_take]; omega
  have : 10 ^ ((s.drop k).take j).length ≤ 10 ^ 4 := Nat.pow_le_pow_right (by omega) hl
  omega

end Go.Proofs.YtbjlkdenkmbepaaGreatDoor

namespace Go.Proofs.YtbjlkdenkmbepaaGreatDoor
open Go.RowKit

theorem dgs_len (s : List UInt8) (k : Nat) : (dgs s k).length ≤ 4 ∧ (dgs s k).length ≤ s.length - k := by
  unfold dgs
  have h := (List.takeWhile_sublist (l := (s.drop k).take 4) dgB).length_le
  rw [List.length_take, List.length_drop] at h
  omega
theorem vAt_le {s : List UInt8} {k : Nat} (h : k ≤ s.length) : k ≤ (vAt s k).2 ∧ (vAt s k).2 ≤ s.length := by
  have hd := dgs_len s k
  unfold vAt
  split
  · simp only; omega
  · rename_i h2
    have h3 : ¬ s[k + (dgs s k).length]? ≠ some 32 := fun h3 => h2 (.inr h3)
    rw [ne_eq, Decidable.not_not] at h3
    have := (List.getElem?_eq_some_iff.1 h3).1
    simp only
    omega
theorem vAt_val (s : List UInt8) (k : Nat) : -1 ≤ (vAt s k).1 ∧ (vAt s k).1 < 10000 := by
  unfold vAt
  split
  · simp
  · have hv : vl 0 (dgs s k) < 10000 := by
      have hd := dgs_len s k
      have ha : ∀ c ∈ dgs s k, dgB c = true := fun c hc => by
        unfold dgs at hc
        have := List.all_eq_true.1 (List.all_takeWhile (l := (s.drop k).take 4) (p := dgB)) c hc
        exact this
      have h := vl_lt _ 0 ha
      have : 10 ^ (dgs s k).length ≤ 10 ^ 4 := Nat.pow_le_pow_right (by omega) hd.1
      omega
    simp only
    omega
/-- the change that a text is the record of, or the zero one. -/
noncomputable def rdC (s : List UInt8) : Ch := (rdM s).getD c0
noncomputable def rdB (s : List UInt8) : Bool := (rdM s).isSome
theorem rd_no {s : List UInt8} (h : rdM s = none) : rdC s = c0 ∧ rdB s = false := by simp [rdC, rdB, h]
theorem rd_yes {s : List UInt8} {x : Ch} (h : rdM s = some x) : rdC s = x ∧ rdB s = true := by simp [rdC, rdB, h]
theorem not_rec {s : List UInt8} (h : ∀ a b p, IsRec s a b p → False) : rdM s = none := rdM_none fun ⟨a, b, p, k⟩ => h a b p k
theorem rec_no1 {s : List UInt8} (h : (vAt s 0).1 < 0 ∨ (vAt s (vAt s 0).2).1 < 0 ∨ (lsp s : Int) - 1 < (vAt s (vAt s 0).2).2) : rdM s = none := by
  refine not_rec fun a b p k => ?_
  obtain ⟨h1, h2, h3, _⟩ := k.parts
  rw [h1] at h
  simp only at h
  rw [h2] at h
  simp only at h
  rw [h3] at h
  omega
theorem rec_mid {s : List UInt8} (h : recT (vAt s 0).1 (vAt s (vAt s 0).2).1 (uneA s (lsp s - 1) (vAt s (vAt s 0).2).2) ≠ s ∨ s = []) : rdM s = none := by
  refine not_rec fun a b p k => ?_
  obtain ⟨h1, h2, h3, h4⟩ := k.parts
  obtain ⟨t1, t2⟩ := k.text
  rcases h with h | h
  · refine h ?_
    rw [h1]
    simp only
    rw [h2]
    simp only
    unfold uneA
    rw [h3, Nat.add_sub_cancel, h4, une_esc]
    exact t1
  · exact t2 h
theorem rec_yes {s : List UInt8} {a b : Int} {p : List UInt8} (h : recT a b p = s) (hs : s ≠ []) : rdM s = some ⟨a, b, p⟩ := by
  obtain ⟨h1, h2, h3⟩ := IsRec.of h hs
  have := rdM_some h1
  rwa [Int.toNat_of_nonneg h2, Int.toNat_of_nonneg h3] at this
theorem une_len : ∀ l : List UInt8, (une l).length ≤ l.length
  | [] => Nat.le_refl _
  | [_] => Nat.le_refl _
  | c :: d :: l => by
    rw [une]
    split
    · have := une_len l
      simp only [List.length_cons]; omega
    · have := une_len (d :: l)
      simp only [List.length_cons] at this ⊢; omega
theorem uneA_len (s : List UInt8) (e k : Nat) : (uneA s e k).length ≤ s.length := by
  unfold uneA
  have := une_len ((s.take e).drop k)
  rw [List.length_drop, List.length_take] at this
  omega

end Go.Proofs.YtbjlkdenkmbepaaGreatDoor

namespace Go.Proofs.YtbjlkdenkmbepaaGreatDoor
open Go.RowKit
set_option linter.unusedVariables false

/-- all digits but the last. -/
def hiD (q : Nat) : List UInt8 := if q < 10 then [] else nm (q / 10)
theorem nm_hi (q : Nat) : nm q = hiD q ++ [dg q] := by
  unfold hiD
  split
  · rename_i h
    rw [nm_small h]
    unfold dg
    rw [Nat.mod_eq_of_lt h]
    rfl
  · rename_i h
    rw [nm_big h]
    rfl

set_option maxRecDepth 100000 in
set_option maxHeartbeats 400000 in
theorem l22Number_any (n : Nat) (w : World) (hn : n < 1000) :
    Calls Tryz.prog 152 #[.int .i64 n] w fun e w' => e = .returned (S (nm n)) ∧ Below w.heap.size w w' := by
  have hd := digit_str
  have hl := nm_len hn
  go_enter Tryz.func152, Tryz.ntmps152
  go_wp2_with fail
  go_loopw [0, 3] (fun i s wr => ∃ (q : Nat) (o : List UInt8), q < 1000 ∧ o.length ≤ 3 ∧ i = .int .i64 q ∧ s = S o ∧ Hid (nm n = hiD q ++ o) ∧ Below w.heap.size w wr) (fun i _ _ => (intOf i).toNat)
  case atStart => exact ⟨n, [dg n], hn, by simp, rfl, rfl, Lib.hid (nm_hi n), by (repeat (first | exact Below.refl _ _ | assumption | refine Below.drew ?_ | refine up_drewN ?_ _ | refine up_alloc ?_ _ | refine up_set ?_ _ _ (by first | exact Nat.le_refl _ | (simp; done) | (simp; omega) | omega) | refine up_trans ?_ (by assumption)))⟩
  case round =>
    obtain ⟨q, o, hq, ho, rfl, rfl, heq, hW⟩ := hrel
    by_cases hlt : 9 < q
    · have i1 : (9 : Int) < (q : Int) := by omega
      have HS := Lib.hid (show nm n = hiD (q / 10) ++ (dg (q / 10) :: o) by
        rw [heq.out, show hiD q = nm (q / 10) from if_neg (by omega), nm_hi (q / 10)]
        simp)
      have hlen : o.length + 1 ≤ 3 := by
        have := congrArg List.length HS.out
        simp at this
        omega
      have e1 : IntKind.i64.wrap ((q : Int).tdiv 10) = ((q / 10 : Nat) : Int) := by rw [Int.tdiv_eq_ediv_of_nonneg (by omega), IntWalk.i64_in _ (by omega)]; omega
      have hd2 := hd wr (q / 10)
      rw [show ((q / 10 : Nat) : Int) = (q : Int) / 10 by omega] at hd2
      clear e1
      go_wp2_with fail
      go_roundw
      case rel => exact ⟨q / 10, dg (q / 10) :: o, by omega, by simp; omega, by go_num, rfl, HS, by (repeat (first | exact Below.refl _ _ | assumption | refine Below.drew ?_ | refine up_drewN ?_ _ | refine up_alloc ?_ _ | refine up_set ?_ _ _ (by first | exact Nat.le_refl _ | (simp; done) | (simp; omega) | omega) | refine up_trans ?_ (by assumption)))⟩
      case measure => simp [intOf]; omega
    · have i1 : ¬ (9 : Int) < (q : Int) := by omega
      have HE := Lib.hid (show nm n = o by rw [heq.out, show hiD q = [] from if_pos (by omega)]; rfl)
      go_wp2_with fail
      go_ret
      rw [HE.out]
      exact ⟨rfl, hW⟩

set_option maxRecDepth 100000 in
theorem l22Sum_any (s : List UInt8) (w : World) (hs : s.length ≤ maxLen) :
    Calls Tryz.prog 153 #[S s] w fun e w' => e = .returned (.int .i64 (smS 0 s : Nat)) ∧ w = w' := by
  unfold maxLen at hs
  obtain ⟨z, hz⟩ : ∃ z, z = smS 0 s := ⟨_, rfl⟩
  have HZ := Lib.hid hz
  rw [← hz]
  clear hz
  go_enter Tryz.func153, Tryz.ntmps153
  go_wp2_with fail
  go_loop [3, 4] (fun n i => ∃ (k q : Nat), k ≤ s.length ∧ i = .int .i64 k ∧ n = .int .i64 q ∧ q < 997 ∧ Hid (q = smS 0 (s.take k))) (fun _ i => s.length - (intOf i).toNat)
  case atStart => exact ⟨0, 0, Nat.zero_le _, rfl, rfl, by omega, Lib.hid rfl⟩
  case round =>
    obtain ⟨k, q, hk, rfl, rfl, hq, HQ⟩ := hrel
    by_cases hlt : k < s.length
    · have i1 : (0 : Int) ≤ (k : Int) := by omega
      have i2 : (k : Int) < (s.length : Int) := by omega
      have HS := Lib.hid (show (31 * q + (s[k]).toNat) % 997 = smS 0 (s.take (k + 1)) by rw [List.take_succ_eq_append_getElem hlt, smS_snoc, HQ.out])
      have hc2 := UInt8.toNat_lt s[k]
      go_wp2_with fail
      go_round
      case rel => exact ⟨k + 1, (31 * q + (s[k]).toNat) % 997, by omega, by go_num, by go_num, by omega, HS⟩
      case measure => simp [intOf]; omega
    · obtain rfl : k = s.length := by omega
      have HF := Lib.hid (show z = q by rw [HZ.out, HQ.out, List.take_length])
      go_wp2_with fail
      go_ret
      exact ⟨ret_int (by rw [HF.out]), rfl⟩

end Go.Proofs.YtbjlkdenkmbepaaGreatDoor

namespace Go.Proofs.YtbjlkdenkmbepaaGreatDoor
open Go.RowKit
set_option linter.unusedVariables false

theorem dgB_out {c : UInt8} : dgB c = true ↔ 48 ≤ c.toNat ∧ c.toNat ≤ 57 := by simp [dgB]

set_option maxRecDepth 100000 in
set_option maxHeartbeats 1000000 in
theorem l22Value_any (s : List UInt8) (k : Nat) (w : World) (hk : k ≤ s.length) (hs : s.length ≤ 1048577) :
    Calls Tryz.prog 151 #[S s, .int .i64 k] w fun e w' => e = .returned (.tuple #[.int .i64 (vAt s k).1, .int .i64 ((vAt s k).2 : Nat)]) ∧ w = w' := by
  obtain ⟨z, hz⟩ : ∃ z, z = vAt s k := ⟨_, rfl⟩
  have HZ := Lib.hid hz
  rw [← hz]
  clear hz
  go_enter Tryz.func151, Tryz.ntmps151
  go_wp2_with fail
  go_loop [1, 6] (fun i n => ∃ (j q : Nat), j ≤ 4 ∧ k + j ≤ s.length ∧ i = .int .i64 (k + j : Nat) ∧ n = .int .i64 q ∧ q < 10000 ∧ Hid (q = vl 0 ((s.drop k).take j)) ∧ Hid (∀ c ∈ (s.drop k).take j, dgB c = true)) (fun i _ => s.length - (intOf i).toNat)
  case atStart => exact ⟨0, 0, by omega, hk, rfl, rfl, by omega, Lib.hid rfl, Lib.hid (by simp)⟩
  case round =>
    obtain ⟨j, q, hj, hkj, rfl, rfl, hq, HQ, HD⟩ := hrel
    have HE := Lib.hid (fun (h : dgs s k = (s.drop k).take j) => (show z = if j = 0 ∨ s[k + j]? ≠ some 32 then (-1, k + j) else ((q : Int), k + j + 1) by
      have hl : ((s.drop k).take j).length = j := by rw [List.length_take, List.length_drop]; omega
      rw [HZ.out, vAt, h, hl, HQ.out]))
    by_cases hlt : k + j < s.length
    · have i1 : (0 : Int) ≤ ((k + j : Nat) : Int) := by omega
      have i2 : ((k + j : Nat) : Int) < (s.length : Int) := by omega
      have hc2 := UInt8.toNat_lt s[k + j]
      by_cases hd : dgB s[k + j] = true ∧ j < 4
      · have hd2 := dgB_out.1 hd.1
        have i3 : (48 : Int) ≤ ((s[k + j]).toNat : Int) := by omega
        have i4 : ((s[k + j]).toNat : Int) ≤ 57 := by omega
        have HV := Lib.hid (vl_step hlt)
        have HD2 := Lib.hid (dg_more hlt HD.out hd.1)
        have HV4 := vl_four (s := s) (k := k) (j := j + 1) (by omega) HD2.out
        rw [HV.out, ← HQ.out] at HV4
        have i5 : (j : Int) < 4 := by omega
        have i6 : IntKind.i64.wrap (((k + j : Nat) : Int) - (k : Int)) = (j : Int) := by rw [IntWalk.i64_in _ (by omega)]; omega
        go_wp2_with fail
        go_round
        case rel => exact ⟨j + 1, 10 * q + ((s[k + j]).toNat - 48), by omega, by omega, by go_num, by go_num, HV4, Lib.hid (by rw [HV.out, HQ.out]), HD2⟩
        case measure => simp [intOf]; omega
      · have HF : dgs s k = (s.drop k).take j := by
          refine dgs_end hj HD.out ?_
          by_cases h4 : j = 4
          · exact .inl h4
          · refine .inr (.inr ⟨hlt, ?_⟩)
            cases h : dgB s[k + j] with
            | false => rfl
            | true => exact absurd ⟨h, by omega⟩ hd
        have hz := HE.out HF
        rw [dgB_out] at hd
        rw [List.getElem?_eq_getElem hlt] at hz
        have hget : (some s[k + j] ≠ some (32 : UInt8)) ↔ ¬ (s[k + j]).toNat = 32 := by
          rw [ne_eq, Option.some.injEq, ← UInt8.toNat_inj]
          rfl
        have i6 : IntKind.i64.wrap (((k + j : Nat) : Int) - (k : Int)) = (j : Int) := by rw [IntWalk.i64_in _ (by omega)]; omega
        have i7 : IntKind.i64.wrap (((k + j : Nat) : Int) + 1) = ((k + j + 1 : Nat) : Int) := by rw [IntWalk.i64_in _ (by omega)]; omega
        have hd3 : 48 ≤ (s[k + j]).toNat → (s[k + j]).toNat ≤ 57 → ¬ j < 4 := fun a b c => hd ⟨⟨a, b⟩, c⟩
        by_cases h0 : j = 0
        · rw [if_pos (.inl h0)] at hz
          have HZ2 := Lib.hid hz
          subst h0
          clear hz HE HF HQ HD HZ hget hd
          have e0 : (((k + 0 : Nat) : Int) == (k : Int)) = true := by simp
          rcases (show (s[k + 0]).toNat < 48 ∨ (48 ≤ (s[k + 0]).toNat ∧ 57 < (s[k + 0]).toNat) by have := hd3; omega) with h1 | ⟨h1, h2⟩
          · have j1 : ¬ (48 : Int) ≤ ((s[k + 0]).toNat : Int) := by omega
            clear hd3
            go_wp2_with fail
            refine bodyPost_ret (v := .tuple #[.int .i64 (-1), .int .i64 ((k + 0 : Nat) : Int)]) (by simp [results, Tryz.results151, go_sem]) rfl ⟨by rw [HZ2.out], rfl⟩
          · have j1 : (48 : Int) ≤ ((s[k + 0]).toNat : Int) := by omega
            have j2 : ¬ ((s[k + 0]).toNat : Int) ≤ 57 := by omega
            clear hd3
            go_wp2_with fail
            refine bodyPost_ret (v := .tuple #[.int .i64 (-1), .int .i64 ((k + 0 : Nat) : Int)]) (by simp [results, Tryz.results151, go_sem]) rfl ⟨by rw [HZ2.out], rfl⟩
        · have e0 : ((k : Int) + (j : Int) == (k : Int)) = false := by rw [beq_eq_false_iff_ne]; omega
          by_cases h32 : (s[k + j]).toNat = 32
          · have HZ2 := Lib.hid (hz.trans (if_neg (by rw [hget]; intro h; rcases h with h | h; exact h0 h; exact h h32)))
            have j1 : ¬ (48 : Int) ≤ ((s[k + j]).toNat : Int) := by omega
            have j3 : ((s[k + j]).toNat : Int) = 32 := by omega
            clear hz HE HF HQ HD HZ hget hd hd3 h32
            go_wp2_with fail
            refine bodyPost_ret (v := .tuple #[.int .i64 q, .int .i64 ((k + j + 1 : Nat) : Int)]) (by simp [results, Tryz.results151, go_sem]) rfl ⟨by rw [HZ2.out], rfl⟩
          · have HZ2 := Lib.hid (hz.trans (if_pos (.inr (hget.2 h32))))
            have j3 : (((s[k + j]).toNat : Int) != 32) = true := by rw [bne_iff_ne]; omega
            rcases (show (s[k + j]).toNat < 48 ∨ (48 ≤ (s[k + j]).toNat ∧ 57 < (s[k + j]).toNat) ∨ (48 ≤ (s[k + j]).toNat ∧ (s[k + j]).toNat ≤ 57 ∧ ¬ j < 4) by have := hd3; omega) with h1 | ⟨h1, h2⟩ | ⟨h1, h2, h3⟩
            · have j1 : ¬ (48 : Int) ≤ ((s[k + j]).toNat : Int) := by omega
              clear hz HE HF HQ HD HZ hget hd hd3 h32
              go_wp2_with fail
              refine bodyPost_ret (v := .tuple #[.int .i64 (-1), .int .i64 ((k + j : Nat) : Int)]) (by simp [results, Tryz.results151, go_sem]) rfl ⟨by rw [HZ2.out], rfl⟩
            · have j1 : (48 : Int) ≤ ((s[k + j]).toNat : Int) := by omega
              have j2 : ¬ ((s[k + j]).toNat : Int) ≤ 57 := by omega
              clear hz HE HF HQ HD HZ hget hd hd3 h32
              go_wp2_with fail
              refine bodyPost_ret (v := .tuple #[.int .i64 (-1), .int .i64 ((k + j : Nat) : Int)]) (by simp [results, Tryz.results151, go_sem]) rfl ⟨by rw [HZ2.out], rfl⟩
            · have j1 : (48 : Int) ≤ ((s[k + j]).toNat : Int) := by omega
              have j2 : ((s[k + j]).toNat : Int) ≤ 57 := by omega
              have j4 : ¬ (k : Int) + (j : Int) - (k : Int) < 4 := by omega
              clear hz HE HF HQ HD HZ hget hd hd3 h32
              go_wp2_with fail
              refine bodyPost_ret (v := .tuple #[.int .i64 (-1), .int .i64 ((k + j : Nat) : Int)]) (by simp [results, Tryz.results151, go_sem]) rfl ⟨by rw [HZ2.out], rfl⟩
    · have HF : dgs s k = (s.drop k).take j := dgs_end hj HD.out (.inr (.inl (by omega)))
      have hz := HE.out HF
      rw [if_pos (.inr (by rw [List.getElem?_eq_none (by omega)]; simp))] at hz
      have HZ2 := Lib.hid hz
      have i2 : ¬ ((k + j : Nat) : Int) < (s.length : Int) := by omega
      have i3 : (s.length : Int) ≤ ((k + j : Nat) : Int) := by omega
      clear hz HE HF HQ HD HZ
      by_cases h0 : j = 0
      · subst h0
        have e0 : (((k + 0 : Nat) : Int) == (k : Int)) = true := by simp
        go_wp2_with fail
        refine bodyPost_ret (v := .tuple #[.int .i64 (-1), .int .i64 ((k + 0 : Nat) : Int)]) (by simp [results, Tryz.results151, go_sem]) rfl ⟨by rw [HZ2.out], rfl⟩
      · have e0 : ((k : Int) + (j : Int) == (k : Int)) = false := by rw [beq_eq_false_iff_ne]; omega
        go_wp2_with fail
        refine bodyPost_ret (v := .tuple #[.int .i64 (-1), .int .i64 ((k + j : Nat) : Int)]) (by simp [results, Tryz.results151, go_sem]) rfl ⟨by rw [HZ2.out], rfl⟩

end Go.Proofs.YtbjlkdenkmbepaaGreatDoor

namespace Go.Proofs.YtbjlkdenkmbepaaGreatDoor
open Go.RowKit
set_option linter.unusedVariables false

theorem esc_snoc (l : List UInt8) (c : UInt8) : esc (l ++ [c]) = esc l ++ esc1 c := by simp [esc]
theorem recB_pre (a b : Nat) (p : List UInt8) : recB a b p = (nm a ++ 32 :: (nm b ++ [32])) ++ esc p := by simp [recB]

theorem one_slice (p : List UInt8) (k : Nat) (h : k < p.length) : (p.take (k + 1)).drop k = [p[k]] := by
  rw [List.take_succ_eq_append_getElem h, List.drop_left' (by rw [List.length_take]; omega)]

set_option maxRecDepth 100000 in
set_option maxHeartbeats 1000000 in
theorem specRecordText_any (x : Ch) (w : World) (hp : x.p.length ≤ 1048576) :
    Calls Tryz.prog 124 #[chAgg x] w fun e w' => e = .returned (S (recT x.a x.c x.p)) ∧ Below w.heap.size w w' := by
  obtain ⟨a, c, p⟩ := x
  simp only at hp
  unfold chAgg
  simp only
  rcases ha : inB a 0 120 with _ | _
  · have HR := Lib.hid (show recT a c p = [] by unfold recT recOk; rw [ha]; rfl)
    generalize recT a c p = r at *
    go_enter Tryz.func124, Tryz.ntmps124
    go_wp2_with (go_at_call 79; refine (l1In_any _ _ _ _).mono ?_; rintro e w1 ⟨rfl, rfl⟩)
    go_ret
    rw [HR.out]
    exact ⟨rfl, by (repeat (first | exact Below.refl _ _ | assumption | refine Below.drew ?_ | refine up_drewN ?_ _ | refine up_alloc ?_ _ | refine up_set ?_ _ _ (by first | exact Nat.le_refl _ | (simp; done) | (simp; omega) | omega) | refine up_trans ?_ (by assumption)))⟩
  rcases hc : inB c 0 120 with _ | _
  · have HR := Lib.hid (show recT a c p = [] by unfold recT recOk; rw [ha, hc]; rfl)
    generalize recT a c p = r at *
    go_enter Tryz.func124, Tryz.ntmps124
    go_wp2_with (go_at_call 79; refine (l1In_any _ _ _ _).mono ?_; rintro e w1 ⟨rfl, rfl⟩)
    go_ret
    rw [HR.out]
    exact ⟨rfl, by (repeat (first | exact Below.refl _ _ | assumption | refine Below.drew ?_ | refine up_drewN ?_ _ | refine up_alloc ?_ _ | refine up_set ?_ _ _ (by first | exact Nat.le_refl _ | (simp; done) | (simp; omega) | omega) | refine up_trans ?_ (by assumption)))⟩
  have hml : p.length ≤ maxLen := by unfold maxLen; omega
  rcases ht : tv p with _ | _
  · have HR := Lib.hid (show recT a c p = [] by unfold recT recOk; rw [ha, hc, ht]; rfl)
    generalize recT a c p = r at *
    go_enter Tryz.func124, Tryz.ntmps124
    go_wp2_with (first | (go_at_call 79; refine (l1In_any _ _ _ _).mono ?_; rintro e w1 ⟨rfl, rfl⟩) | (go_at_call 32; refine (specTextValid_any p _ hml).mono ?_; rintro e w1 ⟨rfl, rfl⟩))
    go_ret
    rw [HR.out]
    exact ⟨rfl, by (repeat (first | exact Below.refl _ _ | assumption | refine Below.drew ?_ | refine up_drewN ?_ _ | refine up_alloc ?_ _ | refine up_set ?_ _ _ (by first | exact Nat.le_refl _ | (simp; done) | (simp; omega) | omega) | refine up_trans ?_ (by assumption)))⟩
  have hR : recT a c p = recX a.toNat c.toNat p := by unfold recT recOk; rw [ha, hc, ht]; rfl
  have HAI := Lib.hid ha
  have HCI := Lib.hid hc
  have ha2 := inB_iff.1 ha
  have hc2 := inB_iff.1 hc
  have hl := tv_len ht
  obtain ⟨a, rfl⟩ := Int.eq_ofNat_of_zero_le ha2.1
  obtain ⟨c, rfl⟩ := Int.eq_ofNat_of_zero_le hc2.1
  rw [Int.toNat_natCast, Int.toNat_natCast] at hR
  have ha3 : a ≤ 120 := by omega
  have hc3 : c ≤ 120 := by omega
  have la := nm_len (n := a) (by omega)
  have lc := nm_len (n := c) (by omega)
  obtain ⟨pre, hpre⟩ : ∃ pre, pre = nm a ++ 32 :: (nm c ++ [32]) := ⟨_, rfl⟩
  have lpre : pre.length ≤ 8 := by rw [hpre]; simp; omega
  have HX := Lib.hid (show recB a c p = pre ++ esc p by rw [recB_pre, hpre])
  have HR := Lib.hid (show recT (a : Int) (c : Int) p = (recB a c p ++ [32]) ++ nm (smS 0 (recB a c p)) by rw [hR]; simp [recX])
  generalize recT (a : Int) (c : Int) p = r at *
  clear hR ha2 hc2
  go_enter Tryz.func124, Tryz.ntmps124
  go_wp2_with (first | (go_at_call 79; refine (l1In_any _ _ _ _).mono ?_; rintro e w1 ⟨rfl, rfl⟩) | (go_at_call 32; refine (specTextValid_any p _ hml).mono ?_; rintro e w1 ⟨rfl, rfl⟩))
  obtain ⟨w1, hw1⟩ : ∃ z, z = w.alloc (.cells #[.int .i64 (a : Int), .int .i64 (c : Int), S p] 78) := ⟨_, rfl⟩
  have hb : Below w.heap.size w w1 := by rw [hw1]; (repeat (first | exact Below.refl _ _ | assumption | refine Below.drew ?_ | refine up_drewN ?_ _ | refine up_alloc ?_ _ | refine up_set ?_ _ _ (by first | exact Nat.le_refl _ | (simp; done) | (simp; omega) | omega) | refine up_trans ?_ (by assumption)))
  have xc : ∀ o, w1.cell? ⟨w.heap.size, o, none⟩ = #[.int .i64 (a : Int), .int .i64 (c : Int), S p][o]? := fun o => by rw [hw1]; simp [go_sem]
  have xz : w.heap.size < w1.heap.size := by rw [hw1]; simp
  rw [← hw1]
  clear hw1
  have hne := UpW.nonempty w1
  have CA := Lib.hid (fun y : UpW w1 => calls_up (l22Number_any a (y.at w1) (by omega)))
  have CC := Lib.hid (fun y : UpW w1 => calls_up (l22Number_any c (y.at w1) (by omega)))
  refine wp_region_up_lit (by kernel_rfl) (by kernel_rfl) ?_
  repeat (go_big_quiet_step ((go_at_call 152; first | (with_reducible exact CA.out _) | (with_reducible exact CC.out _))))
  refine wpQuiet_nil ?_
  intro w2 hb2
  replace hb2 := UpW.out hb2
  rw [← hpre]
  replace xc := up_c hb2 xz xc
  replace xz := Nat.lt_of_lt_of_le xz hb2.size
  have hW : Below w.heap.size w w2 := up_trans hb hb2
  have le0 : ∀ k, (esc (p.take k)).length ≤ 240 := fun k => by have := esc_len (p.take k); rw [List.length_take] at this; omega
  clear CA CC hne hb hb2 hpre ha hc ht la lc
  go_wp2_with fail
  go_loop [3, 4] (fun o i => ∃ k : Nat, k ≤ p.length ∧ i = .int .i64 k ∧ o = S (pre ++ esc (p.take k))) (fun _ i => p.length - (intOf i).toNat)
  case atStart => exact ⟨0, Nat.zero_le _, rfl, by simp [esc]⟩
  case round =>
    obtain ⟨k, hk, rfl, rfl⟩ := hrel
    have le1 := le0 k
    by_cases hlt : k < p.length
    · have HS := Lib.hid (show esc (p.take (k + 1)) = esc (p.take k) ++ esc1 p[k] by rw [List.take_succ_eq_append_getElem hlt, esc_snoc])
      have i1 : (0 : Int) ≤ (k : Int) := by omega
      have i2 : (k : Int) < (p.length : Int) := by omega
      generalize esc (p.take k) = q at *
      by_cases h10 : (p[k]).toNat = 10
      · have HE := Lib.hid (show esc1 p[k] = [92, 110] by unfold esc1; rw [if_pos (UInt8.toNat_inj.1 h10)])
        have j1 : ((p[k]).toNat : Int) = 10 := by omega
        clear h10
        go_wp2_with fail
        go_round
        case rel => exact ⟨k + 1, by omega, by go_num, by rw [HS.out, HE.out]⟩
        case measure => simp [intOf]; omega
      · by_cases h92 : (p[k]).toNat = 92
        · have HE := Lib.hid (show esc1 p[k] = [92, 92] by unfold esc1; rw [if_neg (fun h => h10 (by rw [h]; rfl)), if_pos (UInt8.toNat_inj.1 h92)])
          have j1 : ((p[k]).toNat : Int) = 92 := by omega
          clear h10 h92
          go_wp2_with fail
          go_round
          case rel => exact ⟨k + 1, by omega, by go_num, by rw [HS.out, HE.out]⟩
          case measure => simp [intOf]; omega
        · have HE := Lib.hid (show esc1 p[k] = [p[k]] by unfold esc1; rw [if_neg (fun h => h10 (by rw [h]; rfl)), if_neg (fun h => h92 (by rw [h]; rfl))])
          have j1 : (((p[k]).toNat : Int) == 10) = false := by rw [beq_eq_false_iff_ne]; omega
          have j2 : (((p[k]).toNat : Int) == 92) = false := by rw [beq_eq_false_iff_ne]; omega
          clear h10 h92
          go_wp2_with fail
          go_round
          case rel => exact ⟨k + 1, by omega, by go_num, by rw [HS.out, HE.out, ← one_slice p k hlt]⟩
          case measure => simp [intOf]; omega
    · obtain rfl : k = p.length := by omega
      rw [List.take_length] at le1 ⊢
      have hlen : (recB a c p).length ≤ 250 := by rw [HX.out, List.length_append]; omega
      rw [← HX.out]
      generalize recB a c p = q at *
      have hsm := smS_lt q 0 (by omega)
      have hns := nm_len (n := smS 0 q) (by omega)
      have N1 := Lib.hid (fun w => l22Number_any (smS 0 q) w (by omega))
      go_wp2_with fail
      refine (l22Sum_any q _ (by unfold maxLen; omega)).mono ?_
      rintro e w3 ⟨rfl, rfl⟩
      generalize smS 0 q = m at *
      go_wp2_with fail
      refine (N1.out _).mono ?_
      rintro e w3 ⟨rfl, hb3⟩
      have hW3 := up_trans hW hb3
      clear hb3 xc
      go_wp2_with fail
      go_ret
      rw [HR.out]
      exact ⟨by simp, hW3⟩

end Go.Proofs.YtbjlkdenkmbepaaGreatDoor
