/- What is proved here: contracts of the reference's RunLine, command by command. No condition. -/
import Derived.Test.YtbjlkdenkmbepaaGreatDoorAc24a
namespace Go.Proofs.YtbjlkdenkmbepaaGreatDoor
open Go.RowKit
set_option linter.unusedVariables false

set_option maxRecDepth 100000 in
set_option maxHeartbeats 2000000 in
/-- s that is no command. -/
theorem specRun_sno (s c t' : List UInt8) (f t k : Nat) (w : World) (hs : tv s = true) (hc : c.length ≤ 1048576) (hr : rng c (nl s + 1) = some (f, t, k)) (hd : c.drop k = 115 :: 47 :: t') (hno : ¬ (slH t' = true ∧ slH (slR t') = true ∧ slR (slR t') = [] ∧ slA t' ≠ [])) :
    Calls Tryz.prog 60 #[S s, S c] w (RlPost s (rnL s c) w) := by
  obtain ⟨hk, hb, hd1⟩ := drop_cons hd
  have HO := Lib.hid (show rnL s c = none by
    rw [rnL_of hr, hd]
    show cmDo s f t (cmS (115 :: 47 :: t')) = none
    rw [cmS_no (fun t2 h2 => by injection h2 with _ h2; injection h2 with _ h2; subst h2; exact hno)]
    rfl)
  unfold RlPost
  generalize rnL s c = O at *
  have hl := tv_len hs
  have hnl := nl_le s
  obtain ⟨hft, htn, hkl, hk1⟩ := rng_in (by omega) hr
  have T := Lib.hid (fun w => specTextValid_any s w (by unfold maxLen; omega))
  rw [hs] at T
  obtain ⟨n, hn⟩ : ∃ n, n = nl s + 1 := ⟨_, rfl⟩
  have M := Lib.hid (fun w => specLineMany_any s w (by unfold maxLen; omega))
  rw [hs, if_pos rfl, show 1 + (nl s : Int) = (n : Int) by omega] at M
  have RR := Lib.hid (fun w => specReadRange_any c n w hc (by omega) (by omega))
  unfold RsPost at RR
  rw [← hn] at hr
  have HX := Lib.hid (fun x y z hx => rsIs_some (x := x) (y := y) (z := z) hr hx)
  have LO := Lib.hid (fun w => specLinesOf_any s w hs)
  unfold StrsPost at LO
  have hll := lns_len s
  rw [← hn] at htn hll
  rw [hll] at LO
  have f0 : ¬ (f : Int) < 0 := by omega
  have f1 : ¬ (c.length : Int) ≤ (k : Int) := by omega
  have k0 : (0 : Int) ≤ (k : Int) := by omega
  have k1 : (k : Int) < (c.length : Int) := by omega
  have k2 : (k : Int) + 1 ≤ (c.length : Int) := by omega
  have k3 : (0 : Int) ≤ (k : Int) + 1 := by omega
  have k4 : ((k : Int) + 1).toNat = k + 1 := by omega
  have c1 : (((c[k]).toNat : Int) == 100) = false := by rw [hb]; rfl
  have c2 : (((c[k]).toNat : Int) == 116) = false := by rw [hb]; rfl
  have c3 : (((c[k]).toNat : Int) == 115) = true := by rw [hb]; rfl
  obtain ⟨r, hr0⟩ : ∃ r : List UInt8, r = 47 :: t' := ⟨_, rfl⟩
  rw [← hr0] at hd1
  have rl0 : 0 < r.length := by rw [hr0]; simp
  have b1 : (r == []) = false := by rw [hr0]; rfl
  have b2 : r.isEmpty = false := by rw [hr0]; rfl
  have b3 : (0 : Int) < (r.length : Int) := by omega
  have b4 : (1 : Int) ≤ (r.length : Int) := by omega
  have b5 : (((r[0]).toNat : Int) == 47) = true := by subst hr0; rfl
  have hr1 : r.drop 1 = t' := by rw [hr0]; rfl
  have htl : t'.length ≤ 1048576 := by rw [← hr1, List.length_drop, ← hd1, List.length_drop]; omega
  have K1 := Lib.hid (fun w => l20Cut_any t' w htl)
  have K2 := Lib.hid (fun w => l20Cut_any (slR t') w (by have := slR_le t'; omega))
  clear hb hd hr0
  generalize slA t' = a at *
  generalize slH t' = one at *
  generalize slR t' = m at *
  generalize slA m = u at *
  generalize slH m = two at *
  generalize slR m = tl at *
  rcases one with _ | _
  · clear hno
    have hn1 : n ≤ nl s + 1 := by omega
    have hn2 : nl s + 1 ≤ n := by omega
    clear hs hr hn
    go_enter Tryz.func60, Tryz.ntmps60
    go_wp2_with fail
    refine (T.out _).mono ?_
    rintro e w1 ⟨rfl, rfl⟩
    go_wp2_with fail
    refine (M.out _).mono ?_
    rintro e w1 ⟨rfl, rfl⟩
    go_wp2_with fail
    refine (RR.out _).mono ?_
    rintro e w1 ⟨x, y, z, rfl, hx, rfl⟩
    obtain ⟨rfl, rfl, rfl⟩ := HX.out x y z hx
    clear hx HX RR M
    go_wp2_with fail
    refine (LO.out _).mono ?_
    rintro e w1 ⟨v, rfl, ho, hb⟩
    have HW := Lib.hid hb
    have HO1 := Lib.hid ho
    obtain ⟨g, cap, rfl, hg0, hg1, hcap⟩ := row_form ho (by omega)
    clear ho hb LO f0 f1 k0 k1 k2 k3 k4
    go_wp2_with fail
    refine (K1.out _).mono ?_
    rintro e w2 ⟨rfl, hb2⟩
    go_wp2_with fail
    refine (K2.out _).mono ?_
    rintro e w3 ⟨rfl, hb3⟩
    replace HO1 := Lib.hid (own_up (own_up HO1.out hb2) hb3)
    replace HW := Lib.hid (up_trans (up_trans HW.out hb2) hb3)
    replace hg1 := Nat.lt_of_lt_of_le hg1 (Nat.le_trans hb2.size hb3.size)
    clear hb2 hb3 K1 K2
    go_wp2_with fail
    go_ret2
    exact ⟨by rw [HO.out]; rfl, HW.out⟩
  rcases two with _ | _
  · clear hno
    have hn1 : n ≤ nl s + 1 := by omega
    have hn2 : nl s + 1 ≤ n := by omega
    clear hs hr hn
    go_enter Tryz.func60, Tryz.ntmps60
    go_wp2_with fail
    refine (T.out _).mono ?_
    rintro e w1 ⟨rfl, rfl⟩
    go_wp2_with fail
    refine (M.out _).mono ?_
    rintro e w1 ⟨rfl, rfl⟩
    go_wp2_with fail
    refine (RR.out _).mono ?_
    rintro e w1 ⟨x, y, z, rfl, hx, rfl⟩
    obtain ⟨rfl, rfl, rfl⟩ := HX.out x y z hx
    clear hx HX RR M
    go_wp2_with fail
    refine (LO.out _).mono ?_
    rintro e w1 ⟨v, rfl, ho, hb⟩
    have HW := Lib.hid hb
    have HO1 := Lib.hid ho
    obtain ⟨g, cap, rfl, hg0, hg1, hcap⟩ := row_form ho (by omega)
    clear ho hb LO f0 f1 k0 k1 k2 k3 k4
    go_wp2_with fail
    refine (K1.out _).mono ?_
    rintro e w2 ⟨rfl, hb2⟩
    go_wp2_with fail
    refine (K2.out _).mono ?_
    rintro e w3 ⟨rfl, hb3⟩
    replace HO1 := Lib.hid (own_up (own_up HO1.out hb2) hb3)
    replace HW := Lib.hid (up_trans (up_trans HW.out hb2) hb3)
    replace hg1 := Nat.lt_of_lt_of_le hg1 (Nat.le_trans hb2.size hb3.size)
    clear hb2 hb3 K1 K2
    go_wp2_with fail
    go_ret2
    exact ⟨by rw [HO.out]; rfl, HW.out⟩
  by_cases htl0 : tl = []
  · subst htl0
    obtain rfl : a = [] := by
      rcases Classical.em (a = []) with h | h
      · exact h
      · exact absurd ⟨rfl, rfl, rfl, h⟩ hno
    clear hno
    have hn1 : n ≤ nl s + 1 := by omega
    have hn2 : nl s + 1 ≤ n := by omega
    clear hs hr hn
    go_enter Tryz.func60, Tryz.ntmps60
    go_wp2_with fail
    refine (T.out _).mono ?_
    rintro e w1 ⟨rfl, rfl⟩
    go_wp2_with fail
    refine (M.out _).mono ?_
    rintro e w1 ⟨rfl, rfl⟩
    go_wp2_with fail
    refine (RR.out _).mono ?_
    rintro e w1 ⟨x, y, z, rfl, hx, rfl⟩
    obtain ⟨rfl, rfl, rfl⟩ := HX.out x y z hx
    clear hx HX RR M
    go_wp2_with fail
    refine (LO.out _).mono ?_
    rintro e w1 ⟨v, rfl, ho, hb⟩
    have HW := Lib.hid hb
    have HO1 := Lib.hid ho
    obtain ⟨g, cap, rfl, hg0, hg1, hcap⟩ := row_form ho (by omega)
    clear ho hb LO f0 f1 k0 k1 k2 k3 k4
    go_wp2_with fail
    refine (K1.out _).mono ?_
    rintro e w2 ⟨rfl, hb2⟩
    go_wp2_with fail
    refine (K2.out _).mono ?_
    rintro e w3 ⟨rfl, hb3⟩
    replace HO1 := Lib.hid (own_up (own_up HO1.out hb2) hb3)
    replace HW := Lib.hid (up_trans (up_trans HW.out hb2) hb3)
    replace hg1 := Nat.lt_of_lt_of_le hg1 (Nat.le_trans hb2.size hb3.size)
    clear hb2 hb3 K1 K2
    go_wp2_with fail
    go_ret2
    exact ⟨by rw [HO.out]; rfl, HW.out⟩
  · have d1 : (tl == []) = false := by simpa using htl0
    have d2 : tl.isEmpty = false := by simpa using htl0
    have d3 : (tl != []) = true := by simpa using htl0
    clear hno htl0
    have hn1 : n ≤ nl s + 1 := by omega
    have hn2 : nl s + 1 ≤ n := by omega
    clear hs hr hn
    go_enter Tryz.func60, Tryz.ntmps60
    go_wp2_with fail
    refine (T.out _).mono ?_
    rintro e w1 ⟨rfl, rfl⟩
    go_wp2_with fail
    refine (M.out _).mono ?_
    rintro e w1 ⟨rfl, rfl⟩
    go_wp2_with fail
    refine (RR.out _).mono ?_
    rintro e w1 ⟨x, y, z, rfl, hx, rfl⟩
    obtain ⟨rfl, rfl, rfl⟩ := HX.out x y z hx
    clear hx HX RR M
    go_wp2_with fail
    refine (LO.out _).mono ?_
    rintro e w1 ⟨v, rfl, ho, hb⟩
    have HW := Lib.hid hb
    have HO1 := Lib.hid ho
    obtain ⟨g, cap, rfl, hg0, hg1, hcap⟩ := row_form ho (by omega)
    clear ho hb LO f0 f1 k0 k1 k2 k3 k4
    go_wp2_with fail
    refine (K1.out _).mono ?_
    rintro e w2 ⟨rfl, hb2⟩
    go_wp2_with fail
    refine (K2.out _).mono ?_
    rintro e w3 ⟨rfl, hb3⟩
    replace HO1 := Lib.hid (own_up (own_up HO1.out hb2) hb3)
    replace HW := Lib.hid (up_trans (up_trans HW.out hb2) hb3)
    replace hg1 := Nat.lt_of_lt_of_le hg1 (Nat.le_trans hb2.size hb3.size)
    clear hb2 hb3 K1 K2
    go_wp2_with fail
    go_ret2
    exact ⟨by rw [HO.out]; rfl, HW.out⟩
set_option maxRecDepth 100000 in
set_option maxHeartbeats 2000000 in
/-- s. -/
theorem specRun_s (s c t' : List UInt8) (f t k : Nat) (w : World) (hs : tv s = true) (hc : c.length ≤ 1048576) (hr : rng c (nl s + 1) = some (f, t, k)) (hd : c.drop k = 115 :: 47 :: t') (h1 : slH t' = true) (h2 : slH (slR t') = true) (h3 : slR (slR t') = []) (h4 : slA t' ≠ []) :
    Calls Tryz.prog 60 #[S s, S c] w (RlPost s (rnL s c) w) := by
  obtain ⟨hk, hb, hd1⟩ := drop_cons hd
  obtain ⟨F, hF0⟩ : ∃ F : List UInt8 → List UInt8, F = rpT (slA t') (slA (slR t')) := ⟨_, rfl⟩
  have HO := Lib.hid (show rnL s c = if tv (jn (mapTo F f (t + 1) (lns s))) = true then some (jn (mapTo F f (t + 1) (lns s))) else none by
    rw [rnL_of hr, hd, hF0]
    show cmDo s f t (cmS (115 :: 47 :: t')) = _
    rw [cmS_yes rfl h1 h2 h3 h4]
    rfl)
  have htl9 : (slA t').length ≤ 1048576 ∧ (slA (slR t')).length ≤ 1048576 := by
    have h5 := slA_le t'
    have h6 := slA_le (slR t')
    have h7 := slR_le t'
    have h8 : t'.length ≤ c.length := by
      have := congrArg List.length hd
      simp at this
      omega
    omega
  have hF : ∀ x ∈ lns s, (F x).length ≤ 130000000 := fun x hx => by
    rw [hF0]
    exact rpT_len _ _ x (tv_len ((lns_mem hx).2 hs)) htl9.2
  have RP := Lib.hid (fun (y : List UInt8) (w : World) (hy : tv y = true) z ok (hz : RpIs (slA t') (slA (slR t')) y z ok) => specReplacePlaces_any y (slA t') (slA (slR t')) w hy h4 htl9.1 htl9.2 z ok hz)
  unfold RpIs at RP
  rw [← hF0] at RP
  unfold RlPost
  generalize rnL s c = O at *
  have hl := tv_len hs
  have hnl := nl_le s
  obtain ⟨hft, htn, hkl, hk1⟩ := rng_in (by omega) hr
  have T := Lib.hid (fun w => specTextValid_any s w (by unfold maxLen; omega))
  rw [hs] at T
  obtain ⟨n, hn⟩ : ∃ n, n = nl s + 1 := ⟨_, rfl⟩
  have M := Lib.hid (fun w => specLineMany_any s w (by unfold maxLen; omega))
  rw [hs, if_pos rfl, show 1 + (nl s : Int) = (n : Int) by omega] at M
  have RR := Lib.hid (fun w => specReadRange_any c n w hc (by omega) (by omega))
  unfold RsPost at RR
  rw [← hn] at hr
  have HX := Lib.hid (fun x y z hx => rsIs_some (x := x) (y := y) (z := z) hr hx)
  have LO := Lib.hid (fun w => specLinesOf_any s w hs)
  unfold StrsPost at LO
  have hll := lns_len s
  rw [← hn] at htn hll
  rw [hll] at LO
  have f0 : ¬ (f : Int) < 0 := by omega
  have f1 : ¬ (c.length : Int) ≤ (k : Int) := by omega
  have k0 : (0 : Int) ≤ (k : Int) := by omega
  have k1 : (k : Int) < (c.length : Int) := by omega
  have k2 : (k : Int) + 1 ≤ (c.length : Int) := by omega
  have k3 : (0 : Int) ≤ (k : Int) + 1 := by omega
  have k4 : ((k : Int) + 1).toNat = k + 1 := by omega
  have c1 : (((c[k]).toNat : Int) == 100) = false := by rw [hb]; rfl
  have c2 : (((c[k]).toNat : Int) == 116) = false := by rw [hb]; rfl
  have c3 : (((c[k]).toNat : Int) == 115) = true := by rw [hb]; rfl
  obtain ⟨r, hr0⟩ : ∃ r : List UInt8, r = 47 :: t' := ⟨_, rfl⟩
  rw [← hr0] at hd1
  have rl0 : 0 < r.length := by rw [hr0]; simp
  have b1 : (r == []) = false := by rw [hr0]; rfl
  have b2 : r.isEmpty = false := by rw [hr0]; rfl
  have b3 : (0 : Int) < (r.length : Int) := by omega
  have b4 : (1 : Int) ≤ (r.length : Int) := by omega
  have b5 : (((r[0]).toNat : Int) == 47) = true := by subst hr0; rfl
  have hr1 : r.drop 1 = t' := by rw [hr0]; rfl
  have htl : t'.length ≤ 1048576 := by rw [← hr1, List.length_drop, ← hd1, List.length_drop]; omega
  have K1 := Lib.hid (fun w => l20Cut_any t' w htl)
  have K2 := Lib.hid (fun w => l20Cut_any (slR t') w (by have := slR_le t'; omega))
  clear hb hd hr0
  have HJL := Lib.hid (mapTo_jn_len F f (t + 1) s hs (by omega) (by rw [lns_len]; omega) hF)
  have TV := Lib.hid (fun w => specTextValid_any (jn (mapTo F f (t + 1) (lns s))) w (by have := HJL.out; unfold maxLen; omega))
  have HY := Lib.hid (fun (x : List UInt8) (hx : x ∈ lns s) => (lns_mem hx).2 hs)
  generalize lns s = L at *
  generalize hJ : jn (mapTo F f (t + 1) L) = J at *
  have HJ := Lib.hid hJ
  clear hJ hF
  rw [h1] at K1
  rw [h2, h3] at K2
  have b6 : (slA t' == []) = false := by simpa using h4
  have b7 : (slA t').isEmpty = false := by simpa using h4
  clear hF0 h1 h2 h3 h4 htl htl9
  generalize slA t' = a at *
  generalize slR t' = m at *
  generalize slA m = u at *
  have hn1 : n ≤ nl s + 1 := by omega
  have hn2 : nl s + 1 ≤ n := by omega
  clear hs hr hn
  go_enter Tryz.func60, Tryz.ntmps60
  go_wp2_with fail
  refine (T.out _).mono ?_
  rintro e w1 ⟨rfl, rfl⟩
  go_wp2_with fail
  refine (M.out _).mono ?_
  rintro e w1 ⟨rfl, rfl⟩
  go_wp2_with fail
  refine (RR.out _).mono ?_
  rintro e w1 ⟨x, y, z, rfl, hx, rfl⟩
  obtain ⟨rfl, rfl, rfl⟩ := HX.out x y z hx
  clear hx HX RR M
  go_wp2_with fail
  refine (LO.out _).mono ?_
  rintro e w1 ⟨v, rfl, ho, hb⟩
  have HW := Lib.hid hb
  have HO1 := Lib.hid ho
  obtain ⟨g, cap, rfl, hg0, hg1, hcap⟩ := row_form ho (by omega)
  clear ho hb LO f0 f1 k0 k1 k2 k3 k4
  go_wp2_with fail
  refine (K1.out _).mono ?_
  rintro e w2 ⟨rfl, hb2⟩
  go_wp2_with fail
  refine (K2.out _).mono ?_
  rintro e w3 ⟨rfl, hb3⟩
  replace HO1 := Lib.hid (own_up (own_up HO1.out hb2) hb3)
  replace HW := Lib.hid (up_trans (up_trans HW.out hb2) hb3)
  replace hg1 := Nat.lt_of_lt_of_le hg1 (Nat.le_trans hb2.size hb3.size)
  clear hb2 hb3 K1 K2
  clear b1 b2 b3 b4 b5 c1 c2 c3
  go_wp2_with fail
  go_loopw [20, 21, 22] (fun i x o wr => ∃ (q : Nat) (v1 v2 : Value), x = v1 ∧ o = v2 ∧ f ≤ q ∧ q ≤ t + 1 ∧ i = .int .i64 q ∧ Hid (Own wr w.heap.size 9 1 (.slice (some ⟨g, 0, none⟩) n cap) n ((mapTo F f q L).flatMap strC)) ∧ Hid (Below w.heap.size w wr)) (fun i _ _ _ => t + 1 - (intOf i).toNat)
  case atStart => exact ⟨f, _, _, rfl, rfl, Nat.le_refl _, by omega, rfl, Lib.hid (by rw [mapTo_start]; exact HO1.out), HW⟩
  case round =>
    obtain ⟨q, v1, v2, rfl, rfl, hq0, hq, rfl, HOr, HWr⟩ := hrel
    clear HO1 HW
    have i0 : (0 : Int) ≤ (q : Int) := by omega
    by_cases hlt : q ≤ t
    · have hql : q < L.length := by omega
      have i1 : (q : Int) ≤ (t : Int) := by omega
      have i2 : (q : Int) < (n : Int) := by omega
      have hx : (mapTo F f q L)[q]? = some L[q] := mapTo_at hq0 hql
      have gc : wr.cell? ⟨g, q, none⟩ = some (S L[q]) := by rw [HOr.out.cellAt q (by omega)]; exact flat_at1 _ _ _ hx
      have hst := Lib.hid (mapTo_step (f := F) hq0 hql)
      have hyt := HY.out L[q] (List.getElem_mem hql)
      have HTF := Lib.hid (show tv (F L[q]) = false → tv J = false from fun h => by
        rw [Bool.eq_false_iff]
        intro h4
        rw [← HJ.out] at h4
        have h5 := jn_mem_tv h4 (mapTo_mem (f := F) (a := f) (i := t + 1) (k := q) (xs := L) hq0 (by omega) (by omega))
        rw [h] at h5
        cases h5)
      obtain ⟨y, hy⟩ : ∃ y, y = L[q] := ⟨_, rfl⟩
      rw [← hy] at gc hst hyt HTF
      clear hx hy
      rcases htf : tv (F y) with _ | _
      · have RP1 := Lib.hid (fun w => RP.out y w hyt y false ⟨(fun h => by rw [htf] at h; cases h), fun _ => ⟨rfl, rfl⟩⟩)
        have HN := Lib.hid (HTF.out htf)
        clear RP hyt HTF hst htf
        go_wp2_with fail
        refine (RP1.out _).mono ?_
        rintro e w4 ⟨rfl, hb4⟩
        have HW4 := Lib.hid (up_trans HWr.out hb4)
        have HO5 := Lib.hid (show O = none by rw [HO.out, HN.out]; rfl)
        clear hb4 RP1 gc HOr HN
        go_wp2_with fail
        go_ret2
        exact ⟨by rw [HO5.out]; rfl, HW4.out⟩
      · have RP1 := Lib.hid (fun w => RP.out y w hyt (F y) true ⟨fun _ => ⟨rfl, rfl⟩, (fun h => by rw [htf] at h; cases h)⟩)
        clear RP hyt HTF htf
        go_wp2_with fail
        refine (RP1.out _).mono ?_
        rintro e w4 ⟨rfl, hb4⟩
        have HOr4 := Lib.hid (own_up HOr.out hb4)
        have HW4 := Lib.hid (up_trans HWr.out hb4)
        have gc4 : w4.cell? ⟨g, q, none⟩ = some (S y) := (hb4.cell (p := ⟨g, q, none⟩) (HOr.out.lt g rfl).2).trans gc
        have gf4 := HOr4.out.frozenAt q
        clear hb4 RP1 gc HOr
        have HB3 := Lib.hid (up_set HW4.out ⟨g, q, none⟩ (S (F y)) hg0)
        have HO3 := Lib.hid (show Own (w4.setCell ⟨g, q, none⟩ (S (F y))) w.heap.size 9 1 (.slice (some ⟨g, 0, none⟩) n cap) n ((mapTo F f (q + 1) L).flatMap strC) by
          have h1 := (HOr4.out.stored q (S (F y))).1
          rw [← flat_set1, hst.out] at h1
          exact h1)
        clear HOr4 HW4
        go_wp2_with fail
        go_roundw
        case rel => exact ⟨q + 1, _, _, rfl, rfl, by omega, by omega, by go_num, HO3, HB3⟩
        case measure => simp [intOf]; omega
    · skip
      obtain rfl : q = t + 1 := by omega
      have i1 : ¬ ((t + 1 : Nat) : Int) ≤ (t : Int) := by omega
      have HM := mapTo_len (f := F) (show f ≤ t + 1 by omega) (show t + 1 ≤ L.length by omega)
      have HR := Lib.hid (show RdL wr 1 strC (.slice (some ⟨g, 0, none⟩) n cap) (mapTo F f (t + 1) L) from RdL.of_own (f := strC) (bs := mapTo F f (t + 1) L) (by rw [HM, hll]; exact HOr.out))
      clear HM HOr
      rcases hv : tv J with _ | _
      · rw [hv] at TV HO
        go_wp2_with fail
        refine (l10Text_any (.slice (some ⟨g, 0, none⟩) n cap) (mapTo F f (t + 1) L) wr HR.out (by rw [HJ.out]; exact HJL.out)).mono ?_
        rw [HJ.out]
        rintro e w2 ⟨rfl, rfl⟩
        go_wp2_with fail
        refine (TV.out _).mono ?_
        rintro e w3 ⟨rfl, rfl⟩
        go_wp2_with fail
        go_ret2
        exact ⟨by rw [HO.out]; rfl, HWr.out⟩
      · rw [hv] at TV HO
        go_wp2_with fail
        refine (l10Text_any (.slice (some ⟨g, 0, none⟩) n cap) (mapTo F f (t + 1) L) wr HR.out (by rw [HJ.out]; exact HJL.out)).mono ?_
        rw [HJ.out]
        rintro e w2 ⟨rfl, rfl⟩
        go_wp2_with fail
        refine (TV.out _).mono ?_
        rintro e w3 ⟨rfl, rfl⟩
        go_wp2_with fail
        go_ret2
        exact ⟨by rw [HO.out]; rfl, HWr.out⟩

end Go.Proofs.YtbjlkdenkmbepaaGreatDoor
