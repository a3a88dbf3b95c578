/- What is proved here: What is proved here: contracts of the reference's LinesOf, l10Text and LinesText. What is proved here: contracts of the reference's CutLines and PutLines at lines that exist. No condition. -/
import Derived.Test.YtbjlkdenkmbepaaGreatDoorAc2
import Derived.Test.YtbjlkdenkmbepaaGreatDoorLin2
import Derived.Test.YtbjlkdenkmbepaaGreatDoorBase
import Derived.Deep.Cut
import Derived.Deep.CutRange
namespace Go.Proofs.YtbjlkdenkmbepaaGreatDoor
open Go.RowKit
set_option linter.unusedVariables false

theorem jn_take_le (xs : List (List UInt8)) (k : Nat) : (jn (xs.take k)).length ≤ (jn xs).length := by
  by_cases h : xs.take k = []
  · rw [h]; simp [jn_nil]
  · have hx : xs ≠ [] := fun e => h (by rw [e]; simp)
    have h1 := jn_len _ h
    have h2 := jn_len _ hx
    have h3 := Lib.lens_take_le xs k
    rw [List.length_take] at h1
    omega
theorem jn_take_succ (xs : List (List UInt8)) (k : Nat) (h : k < xs.length) : jn (xs.take (k + 1)) = if k = 0 then xs[k] else jn (xs.take k) ++ 10 :: xs[k] := by
  rw [List.take_succ_eq_append_getElem h]
  by_cases h0 : k = 0
  · subst h0
    rw [if_pos rfl, List.take_zero, List.nil_append, jn_one]
  · rw [if_neg h0, jn_snoc]
    intro e
    have : (xs.take k).length = 0 := by rw [e]; rfl
    rw [List.length_take] at this
    omega
set_option maxRecDepth 100000 in
set_option maxHeartbeats 1000000 in
theorem specLinesOf_any (s : List UInt8) (w : World) (hs : tv s = true) : Calls Tryz.prog 95 #[S s] w (StrsPost (lns s) w) := by
  have hl := tv_len hs
  have hnl := nl_le s
  obtain ⟨i0, hi, hz0, hz1, hz2⟩ := info_parts str_info
  have M := Lib.hid (fun w => specLineMany_any s w (by unfold maxLen; omega))
  rw [hs, if_pos rfl] at M
  have LS := Lib.hid (fun q w hq => specLineStart_any s q w hs hq)
  have LE := Lib.hid (fun q w hq => specLineEnd_any s q w hs hq)
  have HO := Lib.hid (own_emptyS w w.heap.size (Nat.le_refl _))
  have HW : Hid (Below w.heap.size w (w.alloc (.cells #[] 9))) := Lib.hid (by exact bBel)
  have hll := lns_len s
  have HA := Lib.hid (fun q (h : q < (lns s).length) => lns_at s q h)
  unfold StrsPost
  generalize lns s = L at *
  clear hs
  go_enter Tryz.func95, Tryz.ntmps95
  go_wp2_with fail
  go_loopw [3, 4] (fun v i wr => ∃ (k : Nat) (v0 : Value), k ≤ L.length ∧ i = .int .i64 k ∧ v0 = v ∧ Hid (Own wr w.heap.size 9 1 v (L.take k).length ((L.take k).flatMap strC)) ∧ Hid (Below w.heap.size w wr)) (fun _ i _ => L.length - (intOf i).toNat)
  case atStart => exact ⟨0, _, Nat.zero_le _, rfl, rfl, Lib.hid (by simpa using HO.out), HW⟩
  case round =>
    obtain ⟨k, v0, hk, rfl, rfl, HOr, HWr⟩ := hrel
    clear HO HW
    have i0' : (0 : Int) ≤ (k : Int) := by omega
    by_cases hlt : k < L.length
    · have i2 : (k : Int) < 1 + (nl s : Int) := by omega
      have hq : k ≤ nl s := by omega
      have hle := lend_le s k hq
      have HT := Lib.hid (List.take_succ_eq_append_getElem hlt)
      have HE := Lib.hid (show (s.take (lend s k)).drop (lst s k) = L[k] from (HA.out k hlt).symm)
      have htk : (L.take k).length = k := by rw [List.length_take]; omega
      have hsz := HWr.out.size
      have l1 : (lst s k : Int) ≤ (lend s k : Int) := by omega
      have l2 : (lend s k : Int) ≤ (s.length : Int) := by omega
      have LS1 := Lib.hid (fun w => LS.out k w hq)
      have LE1 := Lib.hid (fun w => LE.out k w hq)
      generalize lst s k = a at *
      generalize lend s k = b at *
      go_wp2_with fail
      refine (M.out _).mono ?_
      rintro e w1 ⟨rfl, rfl⟩
      go_wp2_with fail
      refine (LS1.out _).mono ?_
      rintro e w1 ⟨rfl, rfl⟩
      go_wp2_with fail
      refine (LE1.out _).mono ?_
      rintro e w1 ⟨rfl, rfl⟩
      go_wp2_with (at_builtin; refine wpList_append_own _ rfl _ _ 28 rfl w.heap.size 9 i0 _ 1 16 Tryz.underlying28 hi hz0 hz1 hz2 rfl (by decide) _ _ _ rfl (HOr.out.alloc _) ⟨wr.heap.size, 0, none⟩ 1 1 [S ((s.take b).drop a)] rfl rfl (by intro j u hu; simpa using cells_new wr [S ((s.take b).drop a)] 9 j u hu) (by intro u hu; simp at hu; subst hu; rfl) (by unfold maxLen; omega) (by omega) (by simp; omega) ?_; intro v5 w5 how5 hgr5 _)
      have HW5 := Lib.hid (up_grown (up_alloc HWr.out _) hgr5 (own_lt HOr.out (Nat.le_refl _)))
      have HO5 := Lib.hid (show Own w5 w.heap.size 9 1 v5 (L.take (k + 1)).length ((L.take (k + 1)).flatMap strC) by
        rw [HT.out, List.length_append, List.flatMap_append, ← HE.out]
        exact how5)
      clear how5 hgr5
      go_wp2_with fail
      go_roundw
      case rel => exact ⟨k + 1, _, by omega, by go_num, rfl, HO5, HW5⟩
      case measure => simp [intOf]; omega
    · obtain rfl : k = L.length := by omega
      have i2 : ¬ (L.length : Int) < 1 + (nl s : Int) := by omega
      go_wp2_with fail
      refine (M.out _).mono ?_
      rintro e w1 ⟨rfl, rfl⟩
      go_wp2_with fail
      go_ret
      refine ⟨_, rfl, ?_, HWr.out⟩
      have := HOr.out
      rwa [List.take_length] at this
set_option maxRecDepth 100000 in
set_option maxHeartbeats 1000000 in
theorem l10Text_any (v : Value) (xs : List (List UInt8)) (w : World) (h : RdL w 1 strC v xs) (hl : (jn xs).length ≤ 100000000000) :
    Calls Tryz.prog 103 #[v] w fun e w' => e = .returned (S (jn xs)) ∧ w = w' := by
  obtain ⟨A, c, rfl, hml, _⟩ := h.form
  unfold maxLen at hml
  have H := Lib.hid h
  have HP := Lib.hid (fun k => jn_take_le xs k)
  have HE := Lib.hid (show jn (xs.take xs.length) = jn xs by rw [List.take_length])
  have H0 := Lib.hid (show jn (xs.take 0) = [] by rw [List.take_zero]; rfl)
  have HS := Lib.hid (fun k h => jn_take_succ xs k h)
  generalize jn xs = J at *
  clear h
  go_enter Tryz.func103, Tryz.ntmps103
  go_wp2_with fail
  go_loop [3, 4] (fun o i => ∃ (k : Nat) (q : List UInt8), k ≤ xs.length ∧ i = .int .i64 k ∧ o = S q ∧ Hid (q = jn (xs.take k))) (fun _ i => xs.length - (intOf i).toNat)
  case atStart => exact ⟨0, [], Nat.zero_le _, rfl, rfl, Lib.hid H0.out.symm⟩
  case round =>
    obtain ⟨k, q, hk, rfl, rfl, HQ⟩ := hrel
    have hq : q.length ≤ 100000000000 := by have := HP.out k; rw [← HQ.out] at this; omega
    by_cases hlt : k < xs.length
    · have i0 : (0 : Int) ≤ (k : Int) := by omega
      have i2 : (k : Int) < (xs.length : Int) := by omega
      obtain ⟨b, o, rfl, _, hc⟩ := H.out.cells strC_len hlt
      have c0 := hc 0 _ rfl
      simp only [Nat.mul_one, Nat.add_zero] at c0
      have hst := HS.out k hlt
      have hxl : (jn (xs.take (k + 1))).length ≤ 100000000000 := by have := HP.out (k + 1); omega
      obtain ⟨x, hx⟩ : ∃ x, x = xs[k] := ⟨_, rfl⟩
      rw [← hx] at c0 hst
      clear hc hx
      by_cases h0 : k = 0
      · subst h0
        rw [Nat.add_zero] at c0
        rw [if_pos rfl] at hst
        rw [hst] at hxl
        have hq0 : q = [] := by rw [HQ.out]; exact H0.out
        subst hq0
        have HN := Lib.hid hst
        clear hst HQ
        go_wp2_with fail
        go_round
        case rel => exact ⟨1, x, by omega, by go_num, by simp, Lib.hid HN.out.symm⟩
        case measure => simp [intOf]; omega
      · rw [if_neg h0, ← HQ.out] at hst
        rw [hst, List.length_append, List.length_cons] at hxl
        have HN := Lib.hid hst
        have i1 : (0 : Int) < (k : Int) := by omega
        clear hst HQ h0
        go_wp2_with fail
        go_round
        case rel => exact ⟨k + 1, q ++ 10 :: x, by omega, by go_num, by simp, Lib.hid HN.out.symm⟩
        case measure => simp [intOf]; omega
    · obtain rfl : k = xs.length := by omega
      have HF := Lib.hid (show q = J by rw [HQ.out]; exact HE.out)
      go_wp2_with fail
      go_ret
      rw [HF.out]
      exact ⟨rfl, rfl⟩
set_option maxRecDepth 100000 in
set_option maxHeartbeats 1000000 in
theorem specLinesText_any (v : Value) (xs : List (List UInt8)) (w : World) (h : RdL w 1 strC v xs) (hl : (jn xs).length ≤ 120) (hx : ∀ x ∈ xs, tv x = true ∧ nl x = 0) :
    Calls Tryz.prog 139 #[v] w fun e w' => e = .returned (S (jn xs)) ∧ w = w' := by
  obtain ⟨A, c, rfl, hml, _⟩ := h.form
  unfold maxLen at hml
  have H := Lib.hid h
  have HP := Lib.hid (fun k => jn_take_le xs k)
  have HE := Lib.hid (show jn (xs.take xs.length) = jn xs by rw [List.take_length])
  have H0 := Lib.hid (show jn (xs.take 0) = [] by rw [List.take_zero]; rfl)
  have HS := Lib.hid (fun k h => jn_take_succ xs k h)
  have HX := Lib.hid hx
  have M := Lib.hid (fun x w hx => specLineMany_any x w hx)
  generalize jn xs = J at *
  clear h hx
  go_enter Tryz.func139, Tryz.ntmps139
  go_wp2_with fail
  go_loop [3, 4] (fun o i => ∃ (k : Nat) (q : List UInt8), k ≤ xs.length ∧ i = .int .i64 k ∧ o = S q ∧ Hid (q = jn (xs.take k))) (fun _ i => xs.length - (intOf i).toNat)
  case atStart => exact ⟨0, [], Nat.zero_le _, rfl, rfl, Lib.hid H0.out.symm⟩
  case round =>
    obtain ⟨k, q, hk, rfl, rfl, HQ⟩ := hrel
    have hq : q.length ≤ 120 := by have := HP.out k; rw [← HQ.out] at this; omega
    by_cases hlt : k < xs.length
    · have i0 : (0 : Int) ≤ (k : Int) := by omega
      have i2 : (k : Int) < (xs.length : Int) := by omega
      obtain ⟨b, o, rfl, _, hc⟩ := H.out.cells strC_len hlt
      have c0 := hc 0 _ rfl
      simp only [Nat.mul_one, Nat.add_zero] at c0
      have hst := HS.out k hlt
      have hxl : (jn (xs.take (k + 1))).length ≤ 120 := by have := HP.out (k + 1); omega
      obtain ⟨hv, hn⟩ := HX.out _ (List.getElem_mem hlt)
      obtain ⟨x, hx⟩ : ∃ x, x = xs[k] := ⟨_, rfl⟩
      rw [← hx] at c0 hst hv hn
      have MX1 := Lib.hid (fun w => M.out x w (by have := tv_len hv; unfold maxLen; omega))
      rw [hv, hn, if_pos rfl] at MX1
      clear hc hx hv hn
      by_cases h0 : k = 0
      · subst h0
        rw [Nat.add_zero] at c0
        rw [if_pos rfl] at hst
        rw [hst] at hxl
        have hq0 : q = [] := by rw [HQ.out]; exact H0.out
        subst hq0
        have HN := Lib.hid hst
        clear hst HQ
        by_cases hx0 : 0 < x.length
        · have j1 : (0 : Int) < (x.length : Int) := by omega
          go_wp2_with fail
          refine (MX1.out _).mono ?_
          rintro e w1 ⟨rfl, rfl⟩
          go_wp2_with fail
          go_round
          case rel => exact ⟨1, x, by omega, by go_num, by simp, Lib.hid HN.out.symm⟩
          case measure => simp [intOf]; omega
        · have j1 : ¬ (0 : Int) < (x.length : Int) := by omega
          go_wp2_with fail
          go_round
          case rel => exact ⟨1, x, by omega, by go_num, by simp, Lib.hid HN.out.symm⟩
          case measure => simp [intOf]; omega
      · rw [if_neg h0, ← HQ.out] at hst
        rw [hst, List.length_append, List.length_cons] at hxl
        have HN := Lib.hid hst
        have i1 : (0 : Int) < (k : Int) := by omega
        clear hst HQ h0
        by_cases hx0 : 0 < x.length
        · have j1 : (0 : Int) < (x.length : Int) := by omega
          go_wp2_with fail
          refine (MX1.out _).mono ?_
          rintro e w1 ⟨rfl, rfl⟩
          go_wp2_with fail
          go_round
          case rel => exact ⟨k + 1, q ++ 10 :: x, by omega, by go_num, by simp, Lib.hid HN.out.symm⟩
          case measure => simp [intOf]; omega
        · have j1 : ¬ (0 : Int) < (x.length : Int) := by omega
          go_wp2_with fail
          go_round
          case rel => exact ⟨k + 1, q ++ 10 :: x, by omega, by go_num, by simp, Lib.hid HN.out.symm⟩
          case measure => simp [intOf]; omega
    · obtain rfl : k = xs.length := by omega
      have HF := Lib.hid (show q = J by rw [HQ.out]; exact HE.out)
      go_wp2_with fail
      go_ret
      rw [HF.out]
      exact ⟨rfl, rfl⟩

end Go.Proofs.YtbjlkdenkmbepaaGreatDoor

namespace Go.Proofs.YtbjlkdenkmbepaaGreatDoor
open Go.RowKit
set_option linter.unusedVariables false

theorem strs_one (xs : List (List UInt8)) : ∀ x ∈ xs.flatMap strC, x.oneCell' = true := by
  intro x hx
  rw [List.mem_flatMap] at hx
  obtain ⟨y, _, hy⟩ := hx
  unfold strC at hy
  rw [List.mem_singleton] at hy
  subst hy
  rfl
theorem flat_len1 (xs : List (List UInt8)) : (xs.flatMap strC).length = xs.length := by rw [flat_len strC 1 strC_len, Nat.mul_one]
theorem rdS_take {w : World} {A : Option Addr} {n c k : Nat} {L : List (List UInt8)} (h : RdL w 1 strC (.slice A n c) L) (hk : k ≤ L.length) : RdL w 1 strC (.slice A k c) (L.take k) := by
  obtain ⟨h1, h2, A', c', he, h3, h4⟩ := h
  injection he with e1 e2 e3
  subst e1 e3
  refine ⟨by rw [flat_len1, List.length_take, Nat.mul_one], by rw [List.length_take]; omega, A, c, ?_, by rw [List.length_take]; omega, fun hp => ?_⟩
  · congr 1
    rw [List.length_take]; omega
  · rw [List.length_take] at hp
    obtain ⟨b, o, hA, hb, hc⟩ := h4 (by omega)
    refine ⟨b, o, hA, hb, fun j u hu => hc j u ?_⟩
    rw [flat_take strC 1 strC_len, Nat.mul_one, List.getElem?_take] at hu
    split at hu
    · exact hu
    · cases hu
theorem rdS_drop {w : World} {g o n c k : Nat} {L : List (List UInt8)} (h : RdL w 1 strC (.slice (some ⟨g, o, none⟩) n c) L) (hk : k ≤ L.length) : RdL w 1 strC (.slice (some ⟨g, o + k, none⟩) (n - k) (c - k)) (L.drop k) := by
  obtain ⟨h1, h2, A', c', he, h3, h4⟩ := h
  injection he with e1 e2 e3
  subst e1 e3
  refine ⟨by rw [flat_len1, List.length_drop, Nat.mul_one], by rw [List.length_drop]; omega, some ⟨g, o + k, none⟩, c - k, ?_, ?_, fun hp => ?_⟩
  · congr 1
    rw [List.length_drop]; omega
  · rw [List.length_drop]; omega
  · rw [List.length_drop] at hp
    obtain ⟨b, o', hA, hb, hc⟩ := h4 (by omega)
    injection hA with hA
    injection hA with hA1 hA2 _
    subst hA1 hA2
    refine ⟨g, o + k, rfl, hb, fun j u hu => ?_⟩
    rw [flat_drop strC 1 strC_len, Nat.mul_one, List.getElem?_drop] at hu
    rw [Nat.add_assoc]
    exact hc (k + j) u hu
theorem rdS_drop_if {w : World} {g n c k : Nat} {L : List (List UInt8)} (h : RdL w 1 strC (.slice (some ⟨g, 0, none⟩) n c) L) (hk : k ≤ L.length) : RdL w 1 strC (.slice (if c = k then some ⟨g, 0, none⟩ else some ⟨g, k, none⟩) (n - k) (c - k)) (L.drop k) := by
  by_cases hc : c = k
  · obtain ⟨h1, h2, A', c', he, h3, h4⟩ := h
    injection he with e1 e2 e3
    subst e1 e3
    rw [if_pos hc]
    refine ⟨by rw [flat_len1, List.length_drop, Nat.mul_one], by rw [List.length_drop]; omega, some ⟨g, 0, none⟩, c - k, ?_, ?_, fun hp => ?_⟩
    · congr 1
      rw [List.length_drop]; omega
    · rw [List.length_drop]; omega
    · rw [List.length_drop] at hp; omega
  · rw [if_neg hc]
    have := rdS_drop h hk
    rwa [Nat.zero_add] at this
theorem rd_of {w : World} {v : Value} {L : List (List UInt8)} {n : Nat} (hn : L.length = n) (h : RdL w 1 strC v L) : Rd w 1 v n (L.flatMap strC) := hn ▸ h
theorem row_form {w : World} {B n : Nat} {e : TypeId} {v : Value} {xs : List Value} (h : Own w B e 1 v n xs) (hn : 0 < n) : ∃ g c, v = .slice (some ⟨g, 0, none⟩) n c ∧ B ≤ g ∧ g < w.heap.size ∧ n ≤ c := by
  rcases h.2 with ⟨_, h0⟩ | ⟨g, cap, cur, hv, hB, hh, hnc, _⟩
  · omega
  · exact ⟨g, cap, hv, hB, (Array.getElem?_eq_some_iff.1 hh).1, hnc⟩
theorem own_strs {w : World} {B n : Nat} {v : Value} {xs ys zs : List (List UInt8)} (h : Own w B 9 1 v n (xs.flatMap strC ++ ys.flatMap strC)) (hz : zs = xs ++ ys) (hn : n = zs.length) : Own w B 9 1 v zs.length (zs.flatMap strC) := by
  subst hz hn
  rw [List.flatMap_append]
  exact h
set_option maxRecDepth 100000 in
set_option maxHeartbeats 2000000 in
theorem specCutLines_any (s : List UInt8) (f m : Nat) (w : World) (hs : tv s = true) (hm : 1 ≤ m) (hfm : f + m ≤ nl s + 1) :
    Calls Tryz.prog 96 #[S s, .int .i64 f, .int .i64 m] w fun e w' => e = .returned (.tuple #[S (jn (cutL s f m)), .bool true]) ∧ Below w.heap.size w w' := by
  have hl := tv_len hs
  have hnl := nl_le s
  have LO := Lib.hid (fun w => specLinesOf_any s w hs)
  have hll := lns_len s
  have LT := Lib.hid (fun v w h => specLinesText_any v (cutL s f m) w h (cutL_len s f m hs) (fun x hx => ⟨(lns_mem (cutL_mem hx)).2 hs, (lns_mem (cutL_mem hx)).1⟩))
  have HC := Lib.hid (show cutL s f m = (lns s).take f ++ (lns s).drop (f + m) from rfl)
  have I1 := Lib.hid (inB_iff.2 (show (0 : Int) ≤ (f : Int) ∧ (f : Int) ≤ ((nl s + 1 : Nat) : Int) - 1 by omega))
  have I2 := Lib.hid (inB_iff.2 (show (1 : Int) ≤ (m : Int) ∧ (m : Int) ≤ ((nl s + 1 : Nat) : Int) - (f : Int) by omega))
  obtain ⟨i0, hi, hz0, hz1, hz2⟩ := info_parts str_info
  unfold StrsPost at LO
  generalize hJ : jn (cutL s f m) = J at *
  generalize cutL s f m = C at *
  generalize lns s = L at *
  generalize hn : nl s + 1 = n at *
  clear hJ hs
  go_enter Tryz.func96, Tryz.ntmps96
  go_wp2_with fail
  refine (LO.out _).mono ?_
  rintro e w1 ⟨v, rfl, ho, hb⟩
  obtain ⟨g, c, rfl, hg0, hg1, hgc⟩ := row_form ho (by omega)
  have HR := Lib.hid (RdL.of_own ho)
  rw [hll] at ho hgc HR ⊢
  have HT := Lib.hid (rdS_take HR.out (show f ≤ L.length by omega))
  have HD := Lib.hid (rdS_drop_if HR.out (show f + m ≤ L.length by omega))
  have HW1 := Lib.hid hb
  have hlt : (L.take f).length = f := by rw [List.length_take]; omega
  have hld : (L.drop (f + m)).length = n - (f + m) := by rw [List.length_drop]; omega
  have s1 := HW1.out.size
  have HLD := Lib.hid (And.intro hlt hld)
  clear ho hb LO hlt hld
  go_wp2_with fail
  refine (l1In_any _ _ _ _).mono ?_
  rw [I1.out]
  rintro e w2 ⟨rfl, rfl⟩
  go_wp2_with fail
  refine (l1In_any _ _ _ _).mono ?_
  rw [I2.out]
  rintro e w2 ⟨rfl, rfl⟩
  clear I1 I2
  go_upto_region 6 with (fail)
  have f0 : (0 : Int) ≤ (f : Int) := by omega
  have f1 : (f : Int) ≤ (c : Int) := by omega
  have k1 : IntKind.i64.wrap ((f : Int) + (m : Int)) = ((f + m : Nat) : Int) := by rw [IntWalk.i64_in _ (by omega)]; omega
  have k0 : (0 : Int) ≤ ((f + m : Nat) : Int) := by omega
  have k2 : ((f + m : Nat) : Int) ≤ (n : Int) := by omega
  obtain ⟨k, hk⟩ : ∃ k, k = f + m := ⟨_, rfl⟩
  rw [← hk] at k0 k1 k2 HD HC HLD
  have kn : k ≤ n := by omega
  clear hk
  go_region_law (first
    | (refine step_append_any _ rfl (.tmp 30) (.tmp 33) 28 rfl w1.heap.size 9 i0 (S []) 1 16 Tryz.underlying28 hi hz0 hz1 hz2 rfl (by decide) (.slice (some ⟨w1.heap.size, 0, none⟩) 0 0) 0 [] (by simp [Act.eval]) (own_up (own_emptyS w1 _ (Nat.le_refl _)) (by exact bBel)) (.slice (some ⟨g, 0, none⟩) f c) f ((L.take f).flatMap strC) (by simp [Act.eval]) (rd_of HLD.out.1 (RdL.up HT.out (by exact bBel))) (strs_one _) (by unfold maxLen; omega) (by omega) (by simp) ?_; intro v2 w2 how hgr; have hgr2 : World.grownBy _ w2 (some w1.heap.size) := hgr; have HO2 := Lib.hid how; have HB2 := Lib.hid (show Below w1.heap.size w1 w2 from up_grown (by exact bBel) hgr2 (by intro k hk; injection hk; omega)); clear how hgr hgr2)
    | (refine step_append_any _ rfl (.tmp 34) (.tmp 39) 28 rfl w1.heap.size 9 i0 (S []) 1 16 Tryz.underlying28 hi hz0 hz1 hz2 rfl (by decide) v2 (0 + f) ([] ++ (L.take f).flatMap strC) (by simp [Act.eval]) (own_up HO2.out (by exact bBel)) (.slice (if c = k then some ⟨g, 0, none⟩ else some ⟨g, k, none⟩) (n - k) (c - k)) (n - k) ((L.drop k).flatMap strC) (by simp [Act.eval]) (rd_of HLD.out.2 (RdL.up HD.out (by have hq := HB2.out; exact bBel))) (strs_one _) (by unfold maxLen; omega) (by omega) (by have := HB2.out.size; simp; omega) ?_; intro v3 w3 how hgr; have HO3 := Lib.hid how; have HB3 := Lib.hid (show Below w1.heap.size w1 w3 from up_grown (by have hq := HB2.out; exact bBel) hgr (own_lt HO2.out (Nat.le_refl _))); clear how hgr HO2 HB2)
    | (go_simp; go_at_call 139; refine (LT.out v3 _ (by have h1 := HO3.out; rw [List.nil_append] at h1; have h2 := own_strs h1 HC.out (by rw [HC.out, List.length_append, HLD.out.1, HLD.out.2]; omega); exact RdL.up (RdL.of_own h2) (by exact bBel))).mono ?_; rintro e w4 ⟨rfl, rfl⟩))
  all_goals go_wp2_with fail
  all_goals
    go_ret2
    exact ⟨rfl, up_trans HW1.out (by have hq := HB3.out; exact bBel)⟩

set_option maxRecDepth 100000 in
set_option maxHeartbeats 2000000 in
theorem specPutLines_any (s : List UInt8) (a : Nat) (t : List UInt8) (w : World) (hs : tv s = true) (ht : tv t = true) (ha : a ≤ nl s + 1) (z : List UInt8) (ok : Bool) (hz : (s.length + 1 + t.length ≤ 120 → z = jn (putL s a t) ∧ ok = true) ∧ (¬ s.length + 1 + t.length ≤ 120 → z = s ∧ ok = false)) :
    Calls Tryz.prog 98 #[S s, .int .i64 a, S t] w fun e w' => e = .returned (.tuple #[S z, .bool ok]) ∧ Below w.heap.size w w' := by
  have hl := tv_len hs
  have htl := tv_len ht
  have hnl := nl_le s
  have hnt := nl_le t
  have LO := Lib.hid (fun w => specLinesOf_any s w hs)
  have LO2 := Lib.hid (fun w => specLinesOf_any t w ht)
  have T := Lib.hid (fun w => specTextValid_any t w (by unfold maxLen; omega))
  rw [ht] at T
  have hll := lns_len s
  have hlt := lns_len t
  have HZ := Lib.hid hz
  have LT := Lib.hid (fun v w h (h1 : s.length + 1 + t.length ≤ 120) => specLinesText_any v (putL s a t) w h (by rw [putL_len]; exact h1) (fun x hx => by
    rcases putL_mem hx with h2 | h2
    · exact ⟨(lns_mem h2).2 hs, (lns_mem h2).1⟩
    · exact ⟨(lns_mem h2).2 ht, (lns_mem h2).1⟩))
  have HC := Lib.hid (show putL s a t = ((lns s).take a ++ lns t) ++ (lns s).drop a by unfold putL; rw [List.append_assoc])
  have I1 := Lib.hid (inB_iff.2 (show (0 : Int) ≤ (a : Int) ∧ (a : Int) ≤ ((nl s + 1 : Nat) : Int) by omega))
  obtain ⟨i0, hi, hz0, hz1, hz2⟩ := info_parts str_info
  unfold StrsPost at LO LO2
  generalize hJ : jn (putL s a t) = J at *
  generalize putL s a t = C at *
  generalize lns s = L at *
  generalize lns t = K at *
  generalize hn : nl s + 1 = n at *
  generalize hn2 : nl t + 1 = n2 at *
  clear hJ hs ht hz
  go_enter Tryz.func98, Tryz.ntmps98
  go_wp2_with fail
  refine (LO.out _).mono ?_
  rintro e w1 ⟨v, rfl, ho, hb⟩
  obtain ⟨g, c, rfl, hg0, hg1, hgc⟩ := row_form ho (by omega)
  have HR := Lib.hid (RdL.of_own ho)
  rw [hll] at ho hgc HR ⊢
  have HT := Lib.hid (rdS_take HR.out (show a ≤ L.length by omega))
  have HD := Lib.hid (rdS_drop_if HR.out (show a ≤ L.length by omega))
  have HW1 := Lib.hid hb
  have hlt1 : (L.take a).length = a := by rw [List.length_take]; omega
  have hld : (L.drop a).length = n - a := by rw [List.length_drop]; omega
  have s1 := HW1.out.size
  have HLD := Lib.hid (And.intro hlt1 hld)
  have c0 : ((n : Int) == 0) = false := by rw [beq_eq_false_iff_ne]; omega
  clear ho hb LO hlt1 hld
  go_wp2_with fail
  refine (T.out _).mono ?_
  rintro e w2 ⟨rfl, rfl⟩
  go_wp2_with fail
  refine (l1In_any _ _ _ _).mono ?_
  rw [I1.out]
  rintro e w2 ⟨rfl, rfl⟩
  clear I1 T
  by_cases hroom : s.length + 1 + t.length ≤ 120
  case neg =>
    obtain ⟨hz1, hz2⟩ := HZ.out.2 hroom
    subst hz1 hz2
    have j1 : (120 : Int) < (z.length : Int) + 1 + (t.length : Int) := by omega
    clear HZ hroom
    go_wp2_with fail
    go_ret2
    exact ⟨rfl, HW1.out⟩
  case pos =>
    obtain ⟨hz1, hz2⟩ := HZ.out.1 hroom
    subst hz1 hz2
    have j1 : ¬ (120 : Int) < (s.length : Int) + 1 + (t.length : Int) := by omega
    have f0 : (0 : Int) ≤ (a : Int) := by omega
    have f1 : (a : Int) ≤ (c : Int) := by omega
    have f2 : (a : Int) ≤ (n : Int) := by omega
    have HROOM := Lib.hid hroom
    clear HZ hroom
    go_wp2_with (at_builtin; refine wpList_append_any _ rfl _ _ 28 rfl w1.heap.size 9 i0 (S []) 1 16 Tryz.underlying28 hi hz0 hz1 hz2 rfl (by decide) _ _ _ rfl (own_emptyS w1 _ (Nat.le_refl _)) _ a ((L.take a).flatMap strC) rfl (rd_of HLD.out.1 (RdL.up HT.out (by exact bBel))) (strs_one _) (by unfold maxLen; omega) (by omega) (by simp) ?_; intro v2 w2 how hgr)
    have hgr2 : World.grownBy _ w2 (some w1.heap.size) := hgr
    have HO2 := Lib.hid how
    have HB2 := Lib.hid (show Below w1.heap.size w1 w2 from up_grown (by exact bBel) hgr2 (by intro k hk; injection hk; omega))
    clear how hgr hgr2
    go_wp2_with fail
    refine (LO2.out _).mono ?_
    rintro e w3 ⟨v3, rfl, ho3, hb3⟩
    have HB3 := Lib.hid (up_trans HB2.out hb3)
    have HR3 := Lib.hid (RdL.of_own ho3)
    have HO3 := Lib.hid (own_up HO2.out hb3)
    obtain ⟨A3, c3, rfl, _, _⟩ := (RdL.of_own ho3).form
    have s3 := HB3.out.size
    clear ho3 hb3 HO2 HB2 LO2
    rw [hlt] at HR3 ⊢
    go_upto_region 8 with (at_builtin; refine wpList_append_any _ rfl _ _ 28 rfl w1.heap.size 9 i0 (S []) 1 16 Tryz.underlying28 hi hz0 hz1 hz2 rfl (by decide) v2 (0 + a) ([] ++ (L.take a).flatMap strC) rfl HO3.out _ n2 (K.flatMap strC) rfl (rd_of hlt HR3.out) (strs_one _) (by unfold maxLen; omega) (by omega) (by omega) ?_; intro v4 w4 how hgr)
    have HO4 := Lib.hid how
    have HB4 := Lib.hid (show Below w1.heap.size w1 w4 from up_grown HB3.out hgr (own_lt HO3.out (Nat.le_refl _)))
    have s4 := HB4.out.size
    clear how hgr HO3 HB3 HR3
    by_cases hca : c = a
    · have HD2 := Lib.hid (show RdL w1 1 strC (.slice (some ⟨g, 0, none⟩) (n - a) (c - a)) (L.drop a) by have h1 := HD.out; rwa [if_pos hca] at h1)
      have hca2 : c - a = 0 := by omega
      rw [hca2] at HD2
      go_wp2_with (at_builtin; refine wpList_append_any _ rfl _ _ 28 rfl w1.heap.size 9 i0 (S []) 1 16 Tryz.underlying28 hi hz0 hz1 hz2 rfl (by decide) v4 (0 + a + n2) ([] ++ (L.take a).flatMap strC ++ K.flatMap strC) rfl HO4.out (.slice (some ⟨g, 0, none⟩) (n - a) 0) (n - a) ((L.drop a).flatMap strC) rfl (rd_of HLD.out.2 (RdL.up HD2.out HB4.out)) (strs_one _) (by unfold maxLen; omega) (by omega) (by omega) ?_; intro v5 w5 how hgr)
      have HB5 := Lib.hid (show Below w1.heap.size w1 w5 from up_grown HB4.out hgr (own_lt HO4.out (Nat.le_refl _)))
      have HO5 := Lib.hid (show RdL w5 1 strC v5 C by
        have h1 := how
        rw [List.nil_append, ← List.flatMap_append] at h1
        exact RdL.of_own (own_strs h1 HC.out (by rw [HC.out, List.length_append, List.length_append, HLD.out.1, HLD.out.2, hlt]; omega)))
      clear how hgr HO4 HB4
      go_wp2_with fail
      refine (LT.out _ _ HO5.out HROOM.out).mono ?_
      rintro e w6 ⟨rfl, rfl⟩
      go_wp2_with fail
      go_ret2
      exact ⟨rfl, up_trans HW1.out HB5.out⟩
    · have HD2 := Lib.hid (show RdL w1 1 strC (.slice (some ⟨g, a, none⟩) (n - a) (c - a)) (L.drop a) by have h1 := HD.out; rwa [if_neg hca] at h1)
      go_wp2_with (at_builtin; refine wpList_append_any _ rfl _ _ 28 rfl w1.heap.size 9 i0 (S []) 1 16 Tryz.underlying28 hi hz0 hz1 hz2 rfl (by decide) v4 (0 + a + n2) ([] ++ (L.take a).flatMap strC ++ K.flatMap strC) rfl HO4.out (.slice (some ⟨g, a, none⟩) (n - a) (c - a)) (n - a) ((L.drop a).flatMap strC) rfl (rd_of HLD.out.2 (RdL.up HD2.out HB4.out)) (strs_one _) (by unfold maxLen; omega) (by omega) (by omega) ?_; intro v5 w5 how hgr)
      have HB5 := Lib.hid (show Below w1.heap.size w1 w5 from up_grown HB4.out hgr (own_lt HO4.out (Nat.le_refl _)))
      have HO5 := Lib.hid (show RdL w5 1 strC v5 C by
        have h1 := how
        rw [List.nil_append, ← List.flatMap_append] at h1
        exact RdL.of_own (own_strs h1 HC.out (by rw [HC.out, List.length_append, List.length_append, HLD.out.1, HLD.out.2, hlt]; omega)))
      clear how hgr HO4 HB4
      go_wp2_with fail
      refine (LT.out _ _ HO5.out HROOM.out).mono ?_
      rintro e w6 ⟨rfl, rfl⟩
      go_wp2_with fail
      go_ret2
      exact ⟨rfl, up_trans HW1.out HB5.out⟩

end Go.Proofs.YtbjlkdenkmbepaaGreatDoor
