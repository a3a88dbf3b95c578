/- What is proved here: What is proved here: contracts of the reference's RunLine, command by command. What is proved here: contracts of the reference's RunLine, command by command. No condition. -/
import Derived.Test.YtbjlkdenkmbepaaGreatDoorAc24a
namespace Go.Proofs.YtbjlkdenkmbepaaGreatDoor
open Go.RowKit
set_option linter.unusedVariables false

set_option maxRecDepth 100000 in
set_option maxHeartbeats 2000000 in
/-- a space before each line. -/
theorem specRun_gt (s c : List UInt8) (f t k : Nat) (w : World) (hs : tv s = true) (hc : c.length ≤ 1048576) (hr : rng c (nl s + 1) = some (f, t, k)) (hd : c.drop k = [62]) :
    Calls Tryz.prog 60 #[S s, S c] w (RlPost s (rnL s c) w) := by
  obtain ⟨hk, hb, hd1⟩ := drop_cons hd
  obtain ⟨F, hF0⟩ : ∃ F : List UInt8 → List UInt8, F = fun l => 32 :: l := ⟨_, rfl⟩
  have HO := Lib.hid (show rnL s c = if tv (jn (mapTo F f (t + 1) (lns s))) = true then some (jn (mapTo F f (t + 1) (lns s))) else none by rw [rnL_of hr, hd, hF0]; rfl)
  have hF : ∀ x ∈ lns s, (F x).length ≤ 130000000 := fun x hx => by
    have := tv_len ((lns_mem hx).2 hs)
    rw [hF0, List.length_cons]
    omega
  have HF0 := Lib.hid (fun y => show F y = 32 :: y by rw [hF0])
  unfold RlPost
  generalize rnL s c = O at *
  have hl := tv_len hs
  have hnl := nl_le s
  obtain ⟨hft, htn, hkl, hk1⟩ := rng_in (by omega) hr
  have T := Lib.hid (fun w => specTextValid_any s w (by unfold maxLen; omega))
  rw [hs] at T
  obtain ⟨n, hn⟩ : ∃ n, n = nl s + 1 := ⟨_, rfl⟩
  have M := Lib.hid (fun w => specLineMany_any s w (by unfold maxLen; omega))
  rw [hs, if_pos rfl, show 1 + (nl s : Int) = (n : Int) by omega] at M
  have RR := Lib.hid (fun w => specReadRange_any c n w hc (by omega) (by omega))
  unfold RsPost at RR
  rw [← hn] at hr
  have HX := Lib.hid (fun x y z hx => rsIs_some (x := x) (y := y) (z := z) hr hx)
  have LO := Lib.hid (fun w => specLinesOf_any s w hs)
  unfold StrsPost at LO
  have hll := lns_len s
  rw [← hn] at htn hll
  rw [hll] at LO
  have f0 : ¬ (f : Int) < 0 := by omega
  have f1 : ¬ (c.length : Int) ≤ (k : Int) := by omega
  have k0 : (0 : Int) ≤ (k : Int) := by omega
  have k1 : (k : Int) < (c.length : Int) := by omega
  have k2 : (k : Int) + 1 ≤ (c.length : Int) := by omega
  have k3 : (0 : Int) ≤ (k : Int) + 1 := by omega
  have k4 : ((k : Int) + 1).toNat = k + 1 := by omega
  have c1 : (((c[k]).toNat : Int) == 100) = false := by rw [hb]; rfl
  have c2 : (((c[k]).toNat : Int) == 116) = false := by rw [hb]; rfl
  have c3 : (((c[k]).toNat : Int) == 115) = false := by rw [hb]; rfl
  have c4 : (((c[k]).toNat : Int) == 62) = true := by rw [hb]; rfl
  have HJL := Lib.hid (mapTo_jn_len F f (t + 1) s hs (by omega) (by rw [lns_len]; omega) hF)
  have TV := Lib.hid (fun w => specTextValid_any (jn (mapTo F f (t + 1) (lns s))) w (by have := HJL.out; unfold maxLen; omega))
  have HY := Lib.hid (fun (x : List UInt8) (hx : x ∈ lns s) => (lns_mem hx).2 hs)
  generalize lns s = L at *
  generalize hJ : jn (mapTo F f (t + 1) L) = J at *
  have HJ := Lib.hid hJ
  clear hJ hF
  clear hb hd hF0
  have hn1 : n ≤ nl s + 1 := by omega
  have hn2 : nl s + 1 ≤ n := by omega
  clear hs hr hn
  go_enter Tryz.func60, Tryz.ntmps60
  go_wp2_with fail
  refine (T.out _).mono ?_
  rintro e w1 ⟨rfl, rfl⟩
  go_wp2_with fail
  refine (M.out _).mono ?_
  rintro e w1 ⟨rfl, rfl⟩
  go_wp2_with fail
  refine (RR.out _).mono ?_
  rintro e w1 ⟨x, y, z, rfl, hx, rfl⟩
  obtain ⟨rfl, rfl, rfl⟩ := HX.out x y z hx
  clear hx HX RR M
  go_wp2_with fail
  refine (LO.out _).mono ?_
  rintro e w1 ⟨v, rfl, ho, hb⟩
  have HW := Lib.hid hb
  have HO1 := Lib.hid ho
  obtain ⟨g, cap, rfl, hg0, hg1, hcap⟩ := row_form ho (by omega)
  clear ho hb LO f0 f1 k0 k1 k2 k3 k4
  go_wp2_with fail
  go_loopw [23] (fun i wr => ∃ q : Nat, f ≤ q ∧ q ≤ t + 1 ∧ i = .int .i64 q ∧ Hid (Own wr w.heap.size 9 1 (.slice (some ⟨g, 0, none⟩) n cap) n ((mapTo F f q L).flatMap strC)) ∧ Hid (Below w.heap.size w wr)) (fun i _ => t + 1 - (intOf i).toNat)
  case atStart => exact ⟨f, Nat.le_refl _, by omega, rfl, Lib.hid (by rw [mapTo_start]; exact HO1.out), HW⟩
  case round =>
    obtain ⟨q, hq0, hq, rfl, HOr, HWr⟩ := hrel
    clear HO1 HW
    have i0 : (0 : Int) ≤ (q : Int) := by omega
    by_cases hlt : q ≤ t
    · skip
      have hql : q < L.length := by omega
      have i1 : (q : Int) ≤ (t : Int) := by omega
      have i2 : (q : Int) < (n : Int) := by omega
      have hx : (mapTo F f q L)[q]? = some L[q] := mapTo_at hq0 hql
      have gc : wr.cell? ⟨g, q, none⟩ = some (S L[q]) := by rw [HOr.out.cellAt q (by omega)]; exact flat_at1 _ _ _ hx
      have gf := HOr.out.frozenAt q
      have hst := mapTo_step (f := F) hq0 hql
      have HB3 := Lib.hid (up_set HWr.out ⟨g, q, none⟩ (S (F L[q])) hg0)
      have HO3 := Lib.hid (show Own (wr.setCell ⟨g, q, none⟩ (S (F L[q]))) w.heap.size 9 1 (.slice (some ⟨g, 0, none⟩) n cap) n ((mapTo F f (q + 1) L).flatMap strC) by
        have h1 := (HOr.out.stored q (S (F L[q]))).1
        rw [← flat_set1, hst] at h1
        exact h1)
      have HO4 := Lib.hid (show F L[q] = L[q] → Own wr w.heap.size 9 1 (.slice (some ⟨g, 0, none⟩) n cap) n ((mapTo F f (q + 1) L).flatMap strC) from fun h => by
        rw [← hst, h, set_same hx]
        exact HOr.out)
      have hyt := HY.out L[q] (List.getElem_mem hql)
      have hyl := tv_len hyt
      have HTF := Lib.hid (show tv (F L[q]) = false → tv J = false from fun h => by
        rw [Bool.eq_false_iff]
        intro h4
        rw [← HJ.out] at h4
        have h5 := jn_mem_tv h4 (mapTo_mem (f := F) (a := f) (i := t + 1) (k := q) (xs := L) hq0 (by omega) (by omega))
        rw [h] at h5
        cases h5)
      obtain ⟨y, hy⟩ : ∃ y, y = L[q] := ⟨_, rfl⟩
      rw [← hy] at gc HB3 HO3 HO4 hyt hyl HTF
      clear hx hst HOr hy
      rw [HF0.out] at HO3 HB3
      clear HF0 HTF HO4
      go_wp2_with fail
      go_roundw
      case rel => exact ⟨q + 1, by omega, by omega, by go_num, HO3, HB3⟩
      case measure => simp [intOf]; omega
    · skip
      obtain rfl : q = t + 1 := by omega
      have i1 : ¬ ((t + 1 : Nat) : Int) ≤ (t : Int) := by omega
      have HM := mapTo_len (f := F) (show f ≤ t + 1 by omega) (show t + 1 ≤ L.length by omega)
      have HR := Lib.hid (show RdL wr 1 strC (.slice (some ⟨g, 0, none⟩) n cap) (mapTo F f (t + 1) L) from RdL.of_own (f := strC) (bs := mapTo F f (t + 1) L) (by rw [HM, hll]; exact HOr.out))
      clear HM HOr
      rcases hv : tv J with _ | _
      · rw [hv] at TV HO
        go_wp2_with fail
        refine (l10Text_any (.slice (some ⟨g, 0, none⟩) n cap) (mapTo F f (t + 1) L) wr HR.out (by rw [HJ.out]; exact HJL.out)).mono ?_
        rw [HJ.out]
        rintro e w2 ⟨rfl, rfl⟩
        go_wp2_with fail
        refine (TV.out _).mono ?_
        rintro e w3 ⟨rfl, rfl⟩
        go_wp2_with fail
        go_ret2
        exact ⟨by rw [HO.out]; rfl, HWr.out⟩
      · rw [hv] at TV HO
        go_wp2_with fail
        refine (l10Text_any (.slice (some ⟨g, 0, none⟩) n cap) (mapTo F f (t + 1) L) wr HR.out (by rw [HJ.out]; exact HJL.out)).mono ?_
        rw [HJ.out]
        rintro e w2 ⟨rfl, rfl⟩
        go_wp2_with fail
        refine (TV.out _).mono ?_
        rintro e w3 ⟨rfl, rfl⟩
        go_wp2_with fail
        go_ret2
        exact ⟨by rw [HO.out]; rfl, HWr.out⟩

set_option maxRecDepth 100000 in
set_option maxHeartbeats 2000000 in
/-- a space less in each line. -/
theorem specRun_lt (s c : List UInt8) (f t k : Nat) (w : World) (hs : tv s = true) (hc : c.length ≤ 1048576) (hr : rng c (nl s + 1) = some (f, t, k)) (hd : c.drop k = [60]) :
    Calls Tryz.prog 60 #[S s, S c] w (RlPost s (rnL s c) w) := by
  obtain ⟨hk, hb, hd1⟩ := drop_cons hd
  obtain ⟨F, hF0⟩ : ∃ F : List UInt8 → List UInt8, F = trm := ⟨_, rfl⟩
  have HO := Lib.hid (show rnL s c = if tv (jn (mapTo F f (t + 1) (lns s))) = true then some (jn (mapTo F f (t + 1) (lns s))) else none by rw [rnL_of hr, hd, hF0]; rfl)
  have hF : ∀ x ∈ lns s, (F x).length ≤ 130000000 := fun x hx => by
    have h1 := tv_len ((lns_mem hx).2 hs)
    have h2 : (trm x).length ≤ x.length := by unfold trm; split <;> simp
    rw [hF0]
    omega
  have HF1 := Lib.hid (fun (y : List UInt8) (h : y.head? = some 32) => show F y = y.drop 1 by rw [hF0]; unfold trm; rw [if_pos h])
  have HF2 := Lib.hid (fun (y : List UInt8) (h : y.head? ≠ some 32) => show F y = y by rw [hF0]; unfold trm; rw [if_neg h])
  unfold RlPost
  generalize rnL s c = O at *
  have hl := tv_len hs
  have hnl := nl_le s
  obtain ⟨hft, htn, hkl, hk1⟩ := rng_in (by omega) hr
  have T := Lib.hid (fun w => specTextValid_any s w (by unfold maxLen; omega))
  rw [hs] at T
  obtain ⟨n, hn⟩ : ∃ n, n = nl s + 1 := ⟨_, rfl⟩
  have M := Lib.hid (fun w => specLineMany_any s w (by unfold maxLen; omega))
  rw [hs, if_pos rfl, show 1 + (nl s : Int) = (n : Int) by omega] at M
  have RR := Lib.hid (fun w => specReadRange_any c n w hc (by omega) (by omega))
  unfold RsPost at RR
  rw [← hn] at hr
  have HX := Lib.hid (fun x y z hx => rsIs_some (x := x) (y := y) (z := z) hr hx)
  have LO := Lib.hid (fun w => specLinesOf_any s w hs)
  unfold StrsPost at LO
  have hll := lns_len s
  rw [← hn] at htn hll
  rw [hll] at LO
  have f0 : ¬ (f : Int) < 0 := by omega
  have f1 : ¬ (c.length : Int) ≤ (k : Int) := by omega
  have k0 : (0 : Int) ≤ (k : Int) := by omega
  have k1 : (k : Int) < (c.length : Int) := by omega
  have k2 : (k : Int) + 1 ≤ (c.length : Int) := by omega
  have k3 : (0 : Int) ≤ (k : Int) + 1 := by omega
  have k4 : ((k : Int) + 1).toNat = k + 1 := by omega
  have c1 : (((c[k]).toNat : Int) == 100) = false := by rw [hb]; rfl
  have c2 : (((c[k]).toNat : Int) == 116) = false := by rw [hb]; rfl
  have c3 : (((c[k]).toNat : Int) == 115) = false := by rw [hb]; rfl
  have c4 : (((c[k]).toNat : Int) == 62) = false := by rw [hb]; rfl
  have c5 : (((c[k]).toNat : Int) == 60) = true := by rw [hb]; rfl
  have HJL := Lib.hid (mapTo_jn_len F f (t + 1) s hs (by omega) (by rw [lns_len]; omega) hF)
  have TV := Lib.hid (fun w => specTextValid_any (jn (mapTo F f (t + 1) (lns s))) w (by have := HJL.out; unfold maxLen; omega))
  have HY := Lib.hid (fun (x : List UInt8) (hx : x ∈ lns s) => (lns_mem hx).2 hs)
  generalize lns s = L at *
  generalize hJ : jn (mapTo F f (t + 1) L) = J at *
  have HJ := Lib.hid hJ
  clear hJ hF
  clear hb hd hF0
  have hn1 : n ≤ nl s + 1 := by omega
  have hn2 : nl s + 1 ≤ n := by omega
  clear hs hr hn
  go_enter Tryz.func60, Tryz.ntmps60
  go_wp2_with fail
  refine (T.out _).mono ?_
  rintro e w1 ⟨rfl, rfl⟩
  go_wp2_with fail
  refine (M.out _).mono ?_
  rintro e w1 ⟨rfl, rfl⟩
  go_wp2_with fail
  refine (RR.out _).mono ?_
  rintro e w1 ⟨x, y, z, rfl, hx, rfl⟩
  obtain ⟨rfl, rfl, rfl⟩ := HX.out x y z hx
  clear hx HX RR M
  go_wp2_with fail
  refine (LO.out _).mono ?_
  rintro e w1 ⟨v, rfl, ho, hb⟩
  have HW := Lib.hid hb
  have HO1 := Lib.hid ho
  obtain ⟨g, cap, rfl, hg0, hg1, hcap⟩ := row_form ho (by omega)
  clear ho hb LO f0 f1 k0 k1 k2 k3 k4
  go_wp2_with fail
  go_loopw [24] (fun i wr => ∃ q : Nat, f ≤ q ∧ q ≤ t + 1 ∧ i = .int .i64 q ∧ Hid (Own wr w.heap.size 9 1 (.slice (some ⟨g, 0, none⟩) n cap) n ((mapTo F f q L).flatMap strC)) ∧ Hid (Below w.heap.size w wr)) (fun i _ => t + 1 - (intOf i).toNat)
  case atStart => exact ⟨f, Nat.le_refl _, by omega, rfl, Lib.hid (by rw [mapTo_start]; exact HO1.out), HW⟩
  case round =>
    obtain ⟨q, hq0, hq, rfl, HOr, HWr⟩ := hrel
    clear HO1 HW
    have i0 : (0 : Int) ≤ (q : Int) := by omega
    by_cases hlt : q ≤ t
    · skip
      have hql : q < L.length := by omega
      have i1 : (q : Int) ≤ (t : Int) := by omega
      have i2 : (q : Int) < (n : Int) := by omega
      have hx : (mapTo F f q L)[q]? = some L[q] := mapTo_at hq0 hql
      have gc : wr.cell? ⟨g, q, none⟩ = some (S L[q]) := by rw [HOr.out.cellAt q (by omega)]; exact flat_at1 _ _ _ hx
      have gf := HOr.out.frozenAt q
      have hst := mapTo_step (f := F) hq0 hql
      have HB3 := Lib.hid (up_set HWr.out ⟨g, q, none⟩ (S (F L[q])) hg0)
      have HO3 := Lib.hid (show Own (wr.setCell ⟨g, q, none⟩ (S (F L[q]))) w.heap.size 9 1 (.slice (some ⟨g, 0, none⟩) n cap) n ((mapTo F f (q + 1) L).flatMap strC) by
        have h1 := (HOr.out.stored q (S (F L[q]))).1
        rw [← flat_set1, hst] at h1
        exact h1)
      have HO4 := Lib.hid (show F L[q] = L[q] → Own wr w.heap.size 9 1 (.slice (some ⟨g, 0, none⟩) n cap) n ((mapTo F f (q + 1) L).flatMap strC) from fun h => by
        rw [← hst, h, set_same hx]
        exact HOr.out)
      have hyt := HY.out L[q] (List.getElem_mem hql)
      have hyl := tv_len hyt
      have HTF := Lib.hid (show tv (F L[q]) = false → tv J = false from fun h => by
        rw [Bool.eq_false_iff]
        intro h4
        rw [← HJ.out] at h4
        have h5 := jn_mem_tv h4 (mapTo_mem (f := F) (a := f) (i := t + 1) (k := q) (xs := L) hq0 (by omega) (by omega))
        rw [h] at h5
        cases h5)
      obtain ⟨y, hy⟩ : ∃ y, y = L[q] := ⟨_, rfl⟩
      rw [← hy] at gc HB3 HO3 HO4 hyt hyl HTF
      clear hx hst HOr hy
      cases y with
      | nil =>
        have HO5 := Lib.hid (HO4.out (HF2.out [] (by simp)))
        clear HF1 HF2 HTF HO4 HO3 HB3
        go_wp2_with fail
        go_roundw
        case rel => exact ⟨q + 1, by omega, by omega, by go_num, HO5, HWr⟩
        case measure => simp [intOf]; omega
      | cons b0 r0 =>
        obtain ⟨y, hy0⟩ : ∃ y, y = b0 :: r0 := ⟨_, rfl⟩
        rw [← hy0] at gc HB3 HO3 HO4 hyt hyl HTF
        have hl0 : 0 < y.length := by rw [hy0]; simp
        have hh : y.head? = some y[0] := by subst hy0; rfl
        have hne : y ≠ [] := by rw [hy0]; simp
        have b1 : (y == []) = false := by simpa using hne
        have b2 : y.isEmpty = false := by simpa using hne
        have l0 : (0 : Int) < (y.length : Int) := by omega
        have l1 : (1 : Int) ≤ (y.length : Int) := by omega
        clear hy0 hne
        by_cases hp : y[0] = 32
        · rw [HF1.out y (by rw [hh, hp]), List.drop_one] at HO3 HB3
          have d1 : (((y[0]).toNat : Int) == 32) = true := by rw [hp]; rfl
          clear HF1 HF2 HTF HO4 hp hh
          go_wp2_with fail
          go_roundw
          case rel => exact ⟨q + 1, by omega, by omega, by go_num, HO3, HB3⟩
          case measure => simp [intOf]; omega
        · have HO5 := Lib.hid (HO4.out (HF2.out y (by rw [hh]; simpa using hp)))
          have d1 : (((y[0]).toNat : Int) == 32) = false := by
            rw [beq_eq_false_iff_ne]
            intro e
            exact hp (UInt8.toNat_inj.1 (show (y[0]).toNat = (32 : UInt8).toNat by show _ = 32; omega))
          clear HF1 HF2 HTF HO4 HO3 HB3 hp hh
          go_wp2_with fail
          go_roundw
          case rel => exact ⟨q + 1, by omega, by omega, by go_num, HO5, HWr⟩
          case measure => simp [intOf]; omega
    · skip
      obtain rfl : q = t + 1 := by omega
      have i1 : ¬ ((t + 1 : Nat) : Int) ≤ (t : Int) := by omega
      have HM := mapTo_len (f := F) (show f ≤ t + 1 by omega) (show t + 1 ≤ L.length by omega)
      have HR := Lib.hid (show RdL wr 1 strC (.slice (some ⟨g, 0, none⟩) n cap) (mapTo F f (t + 1) L) from RdL.of_own (f := strC) (bs := mapTo F f (t + 1) L) (by rw [HM, hll]; exact HOr.out))
      clear HM HOr
      rcases hv : tv J with _ | _
      · rw [hv] at TV HO
        go_wp2_with fail
        refine (l10Text_any (.slice (some ⟨g, 0, none⟩) n cap) (mapTo F f (t + 1) L) wr HR.out (by rw [HJ.out]; exact HJL.out)).mono ?_
        rw [HJ.out]
        rintro e w2 ⟨rfl, rfl⟩
        go_wp2_with fail
        refine (TV.out _).mono ?_
        rintro e w3 ⟨rfl, rfl⟩
        go_wp2_with fail
        go_ret2
        exact ⟨by rw [HO.out]; rfl, HWr.out⟩
      · rw [hv] at TV HO
        go_wp2_with fail
        refine (l10Text_any (.slice (some ⟨g, 0, none⟩) n cap) (mapTo F f (t + 1) L) wr HR.out (by rw [HJ.out]; exact HJL.out)).mono ?_
        rw [HJ.out]
        rintro e w2 ⟨rfl, rfl⟩
        go_wp2_with fail
        refine (TV.out _).mono ?_
        rintro e w3 ⟨rfl, rfl⟩
        go_wp2_with fail
        go_ret2
        exact ⟨by rw [HO.out]; rfl, HWr.out⟩

end Go.Proofs.YtbjlkdenkmbepaaGreatDoor

namespace Go.Proofs.YtbjlkdenkmbepaaGreatDoor
open Go.RowKit
set_option linter.unusedVariables false

set_option maxRecDepth 100000 in
set_option maxHeartbeats 4000000 in
/-- what is no command. -/
theorem specRun_bad (s c r : List UInt8) (b : UInt8) (f t k : Nat) (w : World) (hs : tv s = true) (hc : c.length ≤ 1048576) (hr : rng c (nl s + 1) = some (f, t, k)) (hd : c.drop k = b :: r) (hO : rnL s c = none)
    (h1 : b = 100 → r ≠ []) (h2 : b ≠ 116) (h3 : b = 115 → r.head? ≠ some 47) (h4 : b = 62 → r ≠ []) (h5 : b = 60 → r ≠ []) :
    Calls Tryz.prog 60 #[S s, S c] w (RlPost s (rnL s c) w) := by
  obtain ⟨hk, hb, hd1⟩ := drop_cons hd
  have HO := Lib.hid hO
  unfold RlPost
  generalize rnL s c = O at *
  clear hO
  have hl := tv_len hs
  have hnl := nl_le s
  obtain ⟨hft, htn, hkl, hk1⟩ := rng_in (by omega) hr
  have T := Lib.hid (fun w => specTextValid_any s w (by unfold maxLen; omega))
  rw [hs] at T
  obtain ⟨n, hn⟩ : ∃ n, n = nl s + 1 := ⟨_, rfl⟩
  have M := Lib.hid (fun w => specLineMany_any s w (by unfold maxLen; omega))
  rw [hs, if_pos rfl, show 1 + (nl s : Int) = (n : Int) by omega] at M
  have RR := Lib.hid (fun w => specReadRange_any c n w hc (by omega) (by omega))
  unfold RsPost at RR
  rw [← hn] at hr
  have HX := Lib.hid (fun x y z hx => rsIs_some (x := x) (y := y) (z := z) hr hx)
  have LO := Lib.hid (fun w => specLinesOf_any s w hs)
  unfold StrsPost at LO
  have hll := lns_len s
  rw [← hn] at htn hll
  rw [hll] at LO
  have f0 : ¬ (f : Int) < 0 := by omega
  have f1 : ¬ (c.length : Int) ≤ (k : Int) := by omega
  have k0 : (0 : Int) ≤ (k : Int) := by omega
  have k1 : (k : Int) < (c.length : Int) := by omega
  have k2 : (k : Int) + 1 ≤ (c.length : Int) := by omega
  have k3 : (0 : Int) ≤ (k : Int) + 1 := by omega
  have k4 : ((k : Int) + 1).toNat = k + 1 := by omega
  have ne : ∀ m : UInt8, b ≠ m → (((c[k]).toNat : Int) == (m.toNat : Int)) = false := fun m h => by
    rw [hb, beq_eq_false_iff_ne]
    intro e
    exact h (UInt8.toNat_inj.1 (by omega))
  have c2 : (((c[k]).toNat : Int) == 116) = false := ne 116 h2
  have emp : ∀ h : r ≠ [], (r == []) = false ∧ r.isEmpty = false := fun h => ⟨by simpa using h, by simpa using h⟩
  by_cases g1 : b = 100
  · have c1 : (((c[k]).toNat : Int) == 100) = true := by rw [hb, g1]; rfl
    have c3 : (((c[k]).toNat : Int) == 115) = false := ne 115 (by rw [g1]; decide)
    have c4 : (((c[k]).toNat : Int) == 62) = false := ne 62 (by rw [g1]; decide)
    have c5 : (((c[k]).toNat : Int) == 60) = false := ne 60 (by rw [g1]; decide)
    obtain ⟨d1, d2⟩ := emp (h1 g1)
    clear hb hd ne emp h1 h2 h3 h4 h5 g1
    have hn1 : n ≤ nl s + 1 := by omega
    have hn2 : nl s + 1 ≤ n := by omega
    clear hs hr hn
    go_enter Tryz.func60, Tryz.ntmps60
    go_wp2_with fail
    refine (T.out _).mono ?_
    rintro e w1 ⟨rfl, rfl⟩
    go_wp2_with fail
    refine (M.out _).mono ?_
    rintro e w1 ⟨rfl, rfl⟩
    go_wp2_with fail
    refine (RR.out _).mono ?_
    rintro e w1 ⟨x, y, z, rfl, hx, rfl⟩
    obtain ⟨rfl, rfl, rfl⟩ := HX.out x y z hx
    clear hx HX RR M
    go_wp2_with fail
    refine (LO.out _).mono ?_
    rintro e w1 ⟨v, rfl, ho, hb⟩
    have HW := Lib.hid hb
    have HO1 := Lib.hid ho
    obtain ⟨g, cap, rfl, hg0, hg1, hcap⟩ := row_form ho (by omega)
    clear ho hb LO f0 f1 k0 k1 k2 k3 k4
    clear HO1
    go_wp2_with fail
    go_ret2
    exact ⟨by rw [HO.out]; rfl, HW.out⟩
  have c1 : (((c[k]).toNat : Int) == 100) = false := ne 100 g1
  by_cases g3 : b = 115
  · have c3 : (((c[k]).toNat : Int) == 115) = true := by rw [hb, g3]; rfl
    have c4 : (((c[k]).toNat : Int) == 62) = false := ne 62 (by rw [g3]; decide)
    have c5 : (((c[k]).toNat : Int) == 60) = false := ne 60 (by rw [g3]; decide)
    have hh := h3 g3
    cases r with
    | nil =>
      clear hb hd ne emp h1 h2 h3 h4 h5 g1 g3 hh
      have hn1 : n ≤ nl s + 1 := by omega
      have hn2 : nl s + 1 ≤ n := by omega
      clear hs hr hn
      go_enter Tryz.func60, Tryz.ntmps60
      go_wp2_with fail
      refine (T.out _).mono ?_
      rintro e w1 ⟨rfl, rfl⟩
      go_wp2_with fail
      refine (M.out _).mono ?_
      rintro e w1 ⟨rfl, rfl⟩
      go_wp2_with fail
      refine (RR.out _).mono ?_
      rintro e w1 ⟨x, y, z, rfl, hx, rfl⟩
      obtain ⟨rfl, rfl, rfl⟩ := HX.out x y z hx
      clear hx HX RR M
      go_wp2_with fail
      refine (LO.out _).mono ?_
      rintro e w1 ⟨v, rfl, ho, hb⟩
      have HW := Lib.hid hb
      have HO1 := Lib.hid ho
      obtain ⟨g, cap, rfl, hg0, hg1, hcap⟩ := row_form ho (by omega)
      clear ho hb LO f0 f1 k0 k1 k2 k3 k4
      clear HO1
      go_wp2_with fail
      go_ret2
      exact ⟨by rw [HO.out]; rfl, HW.out⟩
    | cons b0 r0 =>
      obtain ⟨r, hr0⟩ : ∃ r, r = b0 :: r0 := ⟨_, rfl⟩
      rw [← hr0] at hd1 hh
      have rl0 : 0 < r.length := by rw [hr0]; simp
      have d1 : (r == []) = false := by rw [hr0]; rfl
      have d2 : r.isEmpty = false := by rw [hr0]; rfl
      have d3 : (0 : Int) < (r.length : Int) := by omega
      have d5 : (((r[0]).toNat : Int) == 47) = false := by
        rw [beq_eq_false_iff_ne]
        intro e
        refine hh ?_
        rw [List.head?_eq_getElem?, List.getElem?_eq_getElem rl0, UInt8.toNat_inj.1 (show (r[0]).toNat = (47 : UInt8).toNat by show _ = 47; omega)]
      clear hb hd ne emp h1 h2 h3 h4 h5 g1 g3 hh hr0
      have hn1 : n ≤ nl s + 1 := by omega
      have hn2 : nl s + 1 ≤ n := by omega
      clear hs hr hn
      go_enter Tryz.func60, Tryz.ntmps60
      go_wp2_with fail
      refine (T.out _).mono ?_
      rintro e w1 ⟨rfl, rfl⟩
      go_wp2_with fail
      refine (M.out _).mono ?_
      rintro e w1 ⟨rfl, rfl⟩
      go_wp2_with fail
      refine (RR.out _).mono ?_
      rintro e w1 ⟨x, y, z, rfl, hx, rfl⟩
      obtain ⟨rfl, rfl, rfl⟩ := HX.out x y z hx
      clear hx HX RR M
      go_wp2_with fail
      refine (LO.out _).mono ?_
      rintro e w1 ⟨v, rfl, ho, hb⟩
      have HW := Lib.hid hb
      have HO1 := Lib.hid ho
      obtain ⟨g, cap, rfl, hg0, hg1, hcap⟩ := row_form ho (by omega)
      clear ho hb LO f0 f1 k0 k1 k2 k3 k4
      clear HO1
      go_wp2_with fail
      go_ret2
      exact ⟨by rw [HO.out]; rfl, HW.out⟩
  have c3 : (((c[k]).toNat : Int) == 115) = false := ne 115 g3
  by_cases g4 : b = 62
  · have c4 : (((c[k]).toNat : Int) == 62) = true := by rw [hb, g4]; rfl
    have c5 : (((c[k]).toNat : Int) == 60) = false := ne 60 (by rw [g4]; decide)
    obtain ⟨d1, d2⟩ := emp (h4 g4)
    clear hb hd ne emp h1 h2 h3 h4 h5 g1 g3 g4
    have hn1 : n ≤ nl s + 1 := by omega
    have hn2 : nl s + 1 ≤ n := by omega
    clear hs hr hn
    go_enter Tryz.func60, Tryz.ntmps60
    go_wp2_with fail
    refine (T.out _).mono ?_
    rintro e w1 ⟨rfl, rfl⟩
    go_wp2_with fail
    refine (M.out _).mono ?_
    rintro e w1 ⟨rfl, rfl⟩
    go_wp2_with fail
    refine (RR.out _).mono ?_
    rintro e w1 ⟨x, y, z, rfl, hx, rfl⟩
    obtain ⟨rfl, rfl, rfl⟩ := HX.out x y z hx
    clear hx HX RR M
    go_wp2_with fail
    refine (LO.out _).mono ?_
    rintro e w1 ⟨v, rfl, ho, hb⟩
    have HW := Lib.hid hb
    have HO1 := Lib.hid ho
    obtain ⟨g, cap, rfl, hg0, hg1, hcap⟩ := row_form ho (by omega)
    clear ho hb LO f0 f1 k0 k1 k2 k3 k4
    clear HO1
    go_wp2_with fail
    go_ret2
    exact ⟨by rw [HO.out]; rfl, HW.out⟩
  have c4 : (((c[k]).toNat : Int) == 62) = false := ne 62 g4
  by_cases g5 : b = 60
  · have c5 : (((c[k]).toNat : Int) == 60) = true := by rw [hb, g5]; rfl
    obtain ⟨d1, d2⟩ := emp (h5 g5)
    clear hb hd ne emp h1 h2 h3 h4 h5 g1 g3 g4 g5
    have hn1 : n ≤ nl s + 1 := by omega
    have hn2 : nl s + 1 ≤ n := by omega
    clear hs hr hn
    go_enter Tryz.func60, Tryz.ntmps60
    go_wp2_with fail
    refine (T.out _).mono ?_
    rintro e w1 ⟨rfl, rfl⟩
    go_wp2_with fail
    refine (M.out _).mono ?_
    rintro e w1 ⟨rfl, rfl⟩
    go_wp2_with fail
    refine (RR.out _).mono ?_
    rintro e w1 ⟨x, y, z, rfl, hx, rfl⟩
    obtain ⟨rfl, rfl, rfl⟩ := HX.out x y z hx
    clear hx HX RR M
    go_wp2_with fail
    refine (LO.out _).mono ?_
    rintro e w1 ⟨v, rfl, ho, hb⟩
    have HW := Lib.hid hb
    have HO1 := Lib.hid ho
    obtain ⟨g, cap, rfl, hg0, hg1, hcap⟩ := row_form ho (by omega)
    clear ho hb LO f0 f1 k0 k1 k2 k3 k4
    clear HO1
    go_wp2_with fail
    go_ret2
    exact ⟨by rw [HO.out]; rfl, HW.out⟩
  have c5 : (((c[k]).toNat : Int) == 60) = false := ne 60 g5
  clear hb hd ne emp h1 h2 h3 h4 h5 g1 g3 g4 g5
  have hn1 : n ≤ nl s + 1 := by omega
  have hn2 : nl s + 1 ≤ n := by omega
  clear hs hr hn
  go_enter Tryz.func60, Tryz.ntmps60
  go_wp2_with fail
  refine (T.out _).mono ?_
  rintro e w1 ⟨rfl, rfl⟩
  go_wp2_with fail
  refine (M.out _).mono ?_
  rintro e w1 ⟨rfl, rfl⟩
  go_wp2_with fail
  refine (RR.out _).mono ?_
  rintro e w1 ⟨x, y, z, rfl, hx, rfl⟩
  obtain ⟨rfl, rfl, rfl⟩ := HX.out x y z hx
  clear hx HX RR M
  go_wp2_with fail
  refine (LO.out _).mono ?_
  rintro e w1 ⟨v, rfl, ho, hb⟩
  have HW := Lib.hid hb
  have HO1 := Lib.hid ho
  obtain ⟨g, cap, rfl, hg0, hg1, hcap⟩ := row_form ho (by omega)
  clear ho hb LO f0 f1 k0 k1 k2 k3 k4
  clear HO1
  go_wp2_with fail
  go_ret2
  exact ⟨by rw [HO.out]; rfl, HW.out⟩
set_option maxRecDepth 100000 in
set_option maxHeartbeats 2000000 in
/-- nothing behind the range, or no range. -/
theorem specRun_none (s c : List UInt8) (w : World) (hs : tv s = true) (hc : c.length ≤ 1048576) (hr : ∀ f t k, rng c (nl s + 1) = some (f, t, k) → c.length ≤ k) :
    Calls Tryz.prog 60 #[S s, S c] w (RlPost s (rnL s c) w) := by
  have HO := Lib.hid (show rnL s c = none by
    unfold rnL
    split
    · rfl
    · rename_i f t k h
      rw [List.drop_of_length_le (hr f t k h)]
      rfl)
  unfold RlPost
  generalize rnL s c = O at *
  have hl := tv_len hs
  have hnl := nl_le s
  have T := Lib.hid (fun w => specTextValid_any s w (by unfold maxLen; omega))
  rw [hs] at T
  obtain ⟨n, hn⟩ : ∃ n, n = nl s + 1 := ⟨_, rfl⟩
  have M := Lib.hid (fun w => specLineMany_any s w (by unfold maxLen; omega))
  rw [hs, if_pos rfl, show 1 + (nl s : Int) = (n : Int) by omega] at M
  have RR := Lib.hid (fun w => specReadRange_any c n w hc (by omega) (by omega))
  unfold RsPost at RR
  rw [← hn] at hr
  have HR := Lib.hid hr
  have LO := Lib.hid (fun w => specLinesOf_any s w hs)
  unfold StrsPost at LO
  rw [lns_len, ← hn] at LO
  have hn1 : n ≤ nl s + 1 := by omega
  have hn2 : nl s + 1 ≤ n := by omega
  clear hs hr hn
  go_enter Tryz.func60, Tryz.ntmps60
  go_wp2_with fail
  refine (T.out _).mono ?_
  rintro e w1 ⟨rfl, rfl⟩
  go_wp2_with fail
  refine (M.out _).mono ?_
  rintro e w1 ⟨rfl, rfl⟩
  go_wp2_with fail
  refine (RR.out _).mono ?_
  rintro e w1 ⟨x, y, z, rfl, hx, rfl⟩
  clear RR M
  have HW := Lib.hid (Below.refl w.heap.size w)
  rcases hx with ⟨a, b, k, h1, rfl, rfl, rfl⟩ | ⟨h1, ⟨rfl, rfl, rfl⟩ | ⟨a, b, j, rfl, rfl, rfl, _, _, hj, hd⟩⟩
  · have hk := HR.out a b k h1
    have f0 : ¬ (a : Int) < 0 := by omega
    have f1 : (c.length : Int) ≤ (k : Int) := by omega
    clear HR h1 LO
    go_wp2_with fail
    go_ret2
    exact ⟨by rw [HO.out]; rfl, HW.out⟩
  · clear HR h1 LO
    go_wp2_with fail
    go_ret2
    exact ⟨by rw [HO.out]; rfl, HW.out⟩
  · have f0 : ¬ (a : Int) < 0 := by omega
    have f1 : ¬ (c.length : Int) ≤ (j : Int) := by omega
    have k0 : (0 : Int) ≤ (j : Int) := by omega
    have k1 : (j : Int) < (c.length : Int) := by omega
    have k2 : (j : Int) + 1 ≤ (c.length : Int) := by omega
    have k3 : (0 : Int) ≤ (j : Int) + 1 := by omega
    have k4 : ((j : Int) + 1).toNat = j + 1 := by omega
    have hd2 : 48 ≤ (c[j]).toNat ∧ (c[j]).toNat ≤ 57 := by simpa [dgB] using hd
    have ne : ∀ m : Int, 58 ≤ m ∨ m < 48 → (((c[j]).toNat : Int) == m) = false := fun m h => by
      rw [beq_eq_false_iff_ne]
      omega
    have c1 := ne 100 (by omega)
    have c2 := ne 116 (by omega)
    have c3 := ne 115 (by omega)
    have c4 := ne 62 (by omega)
    have c5 := ne 60 (by omega)
    clear HR h1 hd hd2 ne
    go_wp2_with fail
    refine (LO.out _).mono ?_
    rintro e w1 ⟨v, rfl, ho, hb⟩
    replace HW := Lib.hid hb
    obtain ⟨g, cap, rfl, -, -, -⟩ := row_form ho (by omega)
    clear ho hb LO f0 f1 k0 k1 k2 k3 k4
    go_wp2_with fail
    go_ret2
    exact ⟨by rw [HO.out]; rfl, HW.out⟩

end Go.Proofs.YtbjlkdenkmbepaaGreatDoor
