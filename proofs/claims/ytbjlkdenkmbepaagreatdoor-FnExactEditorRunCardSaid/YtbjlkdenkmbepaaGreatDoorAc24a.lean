/- What is proved here: What is proved here: contracts of the reference's RunLine, command by command. What is proved here: contracts of the reference's RunLine, command by command. No condition. -/
import Derived.Test.YtbjlkdenkmbepaaGreatDoorAc12
import Derived.Test.YtbjlkdenkmbepaaGreatDoorAc1
import Derived.Test.YtbjlkdenkmbepaaGreatDoorAc16
import Derived.Test.YtbjlkdenkmbepaaGreatDoorAc18
import Derived.Test.YtbjlkdenkmbepaaGreatDoorRn0
import Derived.Test.YtbjlkdenkmbepaaGreatDoorAc2
namespace Go.Proofs.YtbjlkdenkmbepaaGreatDoor
open Go.RowKit
set_option linter.unusedVariables false

theorem drop_cons {c r : List UInt8} {k : Nat} {b : UInt8} (h : c.drop k = b :: r) : ∃ hk : k < c.length, c[k] = b ∧ c.drop (k + 1) = r := by
  have hk : k < c.length := by
    rcases Nat.lt_or_ge k c.length with h1 | h1
    · exact h1
    · rw [List.drop_of_length_le h1] at h; cases h
  rw [List.drop_eq_getElem_cons hk] at h
  injection h with h1 h2
  exact ⟨hk, h1, h2⟩
theorem rnL_of {s c : List UInt8} {f t k : Nat} (h : rng c (nl s + 1) = some (f, t, k)) : rnL s c = cmDo s f t (cmOf (c.drop k)) := by
  unfold rnL
  rw [h]
theorem rsIs_some {c : List UInt8} {L f t k : Nat} {x y z : Int} (h : rng c L = some (f, t, k)) (hx : RsIs c L x y z) : x = f ∧ y = t ∧ z = k := by
  rcases hx with ⟨a, b, j, h1, h2, h3, h4⟩ | ⟨h1, _⟩
  · rw [h] at h1
    injection h1 with h1
    injection h1 with h5 h1
    injection h1 with h6 h7
    subst h5 h6 h7
    exact ⟨h2, h3, h4⟩
  · rw [h] at h1; cases h1
theorem set_same {α : Type} {l : List α} {i : Nat} {x : α} (h : l[i]? = some x) : l.set i x = l := by
  apply List.ext_getElem?
  intro j
  rw [List.getElem?_set]
  by_cases hj : i = j
  · subst hj
    rw [if_pos rfl, h]
    have hi : i < l.length := by
      rcases Nat.lt_or_ge i l.length with h1 | h1
      · exact h1
      · rw [List.getElem?_eq_none h1] at h; cases h
    rw [if_pos hi]
  · rw [if_neg hj]

end Go.Proofs.YtbjlkdenkmbepaaGreatDoor

namespace Go.Proofs.YtbjlkdenkmbepaaGreatDoor
open Go.RowKit
set_option linter.unusedVariables false

set_option maxRecDepth 100000 in
set_option maxHeartbeats 1000000 in
/-- d. -/
theorem specRun_del (s c : List UInt8) (f t k : Nat) (w : World) (hs : tv s = true) (hc : c.length ≤ 1048576) (hr : rng c (nl s + 1) = some (f, t, k)) (hd : c.drop k = [100]) :
    Calls Tryz.prog 60 #[S s, S c] w (RlPost s (rnL s c) w) := by
  obtain ⟨hk, hb, hd1⟩ := drop_cons hd
  have HO := Lib.hid (show rnL s c = some (jn (cutL s f (t - f + 1))) by rw [rnL_of hr, hd]; rfl)
  unfold RlPost
  generalize rnL s c = O at *
  have hl := tv_len hs
  have hnl := nl_le s
  obtain ⟨hft, htn, hkl, hk1⟩ := rng_in (by omega) hr
  have T := Lib.hid (fun w => specTextValid_any s w (by unfold maxLen; omega))
  rw [hs] at T
  obtain ⟨n, hn⟩ : ∃ n, n = nl s + 1 := ⟨_, rfl⟩
  have M := Lib.hid (fun w => specLineMany_any s w (by unfold maxLen; omega))
  rw [hs, if_pos rfl, show 1 + (nl s : Int) = (n : Int) by omega] at M
  have RR := Lib.hid (fun w => specReadRange_any c n w hc (by omega) (by omega))
  unfold RsPost at RR
  rw [← hn] at hr
  have HX := Lib.hid (fun x y z hx => rsIs_some (x := x) (y := y) (z := z) hr hx)
  have LO := Lib.hid (fun w => specLinesOf_any s w hs)
  unfold StrsPost at LO
  have hll := lns_len s
  rw [← hn] at htn hll
  rw [hll] at LO
  have f0 : ¬ (f : Int) < 0 := by omega
  have f1 : ¬ (c.length : Int) ≤ (k : Int) := by omega
  have k0 : (0 : Int) ≤ (k : Int) := by omega
  have k1 : (k : Int) < (c.length : Int) := by omega
  have k2 : (k : Int) + 1 ≤ (c.length : Int) := by omega
  have k3 : (0 : Int) ≤ (k : Int) + 1 := by omega
  have k4 : ((k : Int) + 1).toNat = k + 1 := by omega
  have c1 : (((c[k]).toNat : Int) == 100) = true := by rw [hb]; rfl
  obtain ⟨m, hm⟩ : ∃ m, m = t - f + 1 := ⟨_, rfl⟩
  rw [← hm] at HO
  have CL := Lib.hid (fun w => specCutLines_any s f m w hs (by omega) (by omega))
  have e3 : (t : Int) - (f : Int) + 1 = (m : Int) := by omega
  generalize jn (cutL s f m) = z at *
  clear hb hd hm
  have hn1 : n ≤ nl s + 1 := by omega
  have hn2 : nl s + 1 ≤ n := by omega
  clear hs hr hn
  go_enter Tryz.func60, Tryz.ntmps60
  go_wp2_with fail
  refine (T.out _).mono ?_
  rintro e w1 ⟨rfl, rfl⟩
  go_wp2_with fail
  refine (M.out _).mono ?_
  rintro e w1 ⟨rfl, rfl⟩
  go_wp2_with fail
  refine (RR.out _).mono ?_
  rintro e w1 ⟨x, y, z, rfl, hx, rfl⟩
  obtain ⟨rfl, rfl, rfl⟩ := HX.out x y z hx
  clear hx HX RR M
  go_wp2_with fail
  refine (LO.out _).mono ?_
  rintro e w1 ⟨v, rfl, ho, hb⟩
  have HW := Lib.hid hb
  have HO1 := Lib.hid ho
  obtain ⟨g, cap, rfl, hg0, hg1, hcap⟩ := row_form ho (by omega)
  clear ho hb LO f0 f1 k0 k1 k2 k3 k4
  go_wp2_with fail
  refine (CL.out _).mono ?_
  rintro e w2 ⟨rfl, hb⟩
  have HW2 := Lib.hid (up_trans HW.out hb)
  clear hb
  go_wp2_with fail
  go_ret2
  exact ⟨by rw [HO.out]; rfl, HW2.out⟩

set_option maxRecDepth 100000 in
set_option maxHeartbeats 2000000 in
/-- t. -/
theorem specRun_cpy (s c r : List UInt8) (f t k : Nat) (w : World) (hs : tv s = true) (hc : c.length ≤ 1048576) (hr : rng c (nl s + 1) = some (f, t, k)) (hd : c.drop k = 116 :: r) :
    Calls Tryz.prog 60 #[S s, S c] w (RlPost s (rnL s c) w) := by
  obtain ⟨hk, hb, hd1⟩ := drop_cons hd
  have HO := Lib.hid (show rnL s c = cpyO s f t r by rw [rnL_of hr, hd]; exact cm_cpy s f t r)
  have hrl : r.length ≤ 1048576 := by rw [← hd1, List.length_drop]; omega
  have N0 := Lib.hid (fun w => l20Number_any r 0 w hrl (Nat.zero_le _))
  unfold NsPost at N0
  unfold RlPost
  generalize rnL s c = O at *
  have hl := tv_len hs
  have hnl := nl_le s
  obtain ⟨hft, htn, hkl, hk1⟩ := rng_in (by omega) hr
  have T := Lib.hid (fun w => specTextValid_any s w (by unfold maxLen; omega))
  rw [hs] at T
  obtain ⟨n, hn⟩ : ∃ n, n = nl s + 1 := ⟨_, rfl⟩
  have M := Lib.hid (fun w => specLineMany_any s w (by unfold maxLen; omega))
  rw [hs, if_pos rfl, show 1 + (nl s : Int) = (n : Int) by omega] at M
  have RR := Lib.hid (fun w => specReadRange_any c n w hc (by omega) (by omega))
  unfold RsPost at RR
  rw [← hn] at hr
  have HX := Lib.hid (fun x y z hx => rsIs_some (x := x) (y := y) (z := z) hr hx)
  have LO := Lib.hid (fun w => specLinesOf_any s w hs)
  unfold StrsPost at LO
  have hll := lns_len s
  rw [← hn] at htn hll
  rw [hll] at LO
  have f0 : ¬ (f : Int) < 0 := by omega
  have f1 : ¬ (c.length : Int) ≤ (k : Int) := by omega
  have k0 : (0 : Int) ≤ (k : Int) := by omega
  have k1 : (k : Int) < (c.length : Int) := by omega
  have k2 : (k : Int) + 1 ≤ (c.length : Int) := by omega
  have k3 : (0 : Int) ≤ (k : Int) + 1 := by omega
  have k4 : ((k : Int) + 1).toNat = k + 1 := by omega
  have c1 : (((c[k]).toNat : Int) == 100) = false := by rw [hb]; rfl
  have c2 : (((c[k]).toNat : Int) == 116) = true := by rw [hb]; rfl
  have hlse := lend_le s t (by omega)
  have hlsf := lend_le s f (by omega)
  have hmono : lend s f ≤ lend s t := by
    obtain ⟨d, rfl⟩ : ∃ d, t = f + d := ⟨t - f, by omega⟩
    exact lend_mono s d f (by omega)
  have LS := Lib.hid (fun w => specLineStart_any s f w hs (by omega))
  have LE := Lib.hid (fun w => specLineEnd_any s t w hs (by omega))
  have hst := subL_tv f t hs
  have PL := Lib.hid (fun a w (ha : a ≤ n) z ok hz => specPutLines_any s a (subL s f t) w hs hst (by omega) z ok hz)
  have HCP := Lib.hid (fun a => show cmDo s f t (.cpy a) = if a ≤ n ∧ s.length + 1 + (subL s f t).length ≤ 120 then some (jn (putL s a (subL s f t))) else none from by rw [hn]; rfl)
  have HCO := Lib.hid (show cpyO s f t r = match num r with | some (a, k) => if k = r.length then cmDo s f t (.cpy a) else none | none => none from rfl)
  have HSub := Lib.hid (show subL s f t = (s.take (lend s t)).drop (lst s f) from rfl)
  generalize subL s f t = sub at *
  generalize cpyO s f t r = O2 at *
  generalize lend s t = z1 at *
  generalize lst s f = z0 at *
  have l1 : (z0 : Int) ≤ (z1 : Int) := by omega
  have l2 : (z1 : Int) ≤ (s.length : Int) := by omega
  have l0 : (0 : Int) ≤ (z0 : Int) := by omega
  clear hb hst hlse hlsf hmono hd
  have hn1 : n ≤ nl s + 1 := by omega
  have hn2 : nl s + 1 ≤ n := by omega
  clear hs hr hn
  go_enter Tryz.func60, Tryz.ntmps60
  go_wp2_with fail
  refine (T.out _).mono ?_
  rintro e w1 ⟨rfl, rfl⟩
  go_wp2_with fail
  refine (M.out _).mono ?_
  rintro e w1 ⟨rfl, rfl⟩
  go_wp2_with fail
  refine (RR.out _).mono ?_
  rintro e w1 ⟨x, y, z, rfl, hx, rfl⟩
  obtain ⟨rfl, rfl, rfl⟩ := HX.out x y z hx
  clear hx HX RR M
  go_wp2_with fail
  refine (LO.out _).mono ?_
  rintro e w1 ⟨v, rfl, ho, hb⟩
  have HW := Lib.hid hb
  have HO1 := Lib.hid ho
  obtain ⟨g, cap, rfl, hg0, hg1, hcap⟩ := row_form ho (by omega)
  clear ho hb LO f0 f1 k0 k1 k2 k3 k4
  go_wp2_with fail
  refine (N0.out _).mono ?_
  rintro e w2 ⟨x, m, rfl, hx, rfl⟩
  clear N0 HO1
  rcases hx with ⟨a, j, hnum, rfl, rfl⟩ | ⟨hnum, hx⟩
  · rw [List.drop_zero] at hnum
    have hz : 0 + j = j := Nat.zero_add j
    rw [hz]
    clear hz
    rw [hnum] at HCO
    have x0 : ¬ (a : Int) < 0 := by omega
    by_cases ha : a ≤ n
    · have x1 : ¬ (n : Int) < (a : Int) := by omega
      by_cases hj : j = r.length
      · have x2 : ((j : Int) != (r.length : Int)) = false := by rw [hj]; simp
        have hco := HCO.out
        simp only at hco
        rw [if_pos hj, HCP.out] at hco
        by_cases hroom : s.length + 1 + sub.length ≤ 120
        · rw [if_pos ⟨ha, hroom⟩] at hco
          have HO3 := Lib.hid (HO.out.trans hco)
          have P1 := Lib.hid (fun w => PL.out a w ha (jn (putL s a sub)) true ⟨fun _ => ⟨rfl, rfl⟩, fun h => absurd hroom h⟩)
          generalize jn (putL s a sub) = y at *
          clear hco HCO HCP hnum hj PL
          go_wp2_with fail
          refine (LS.out _).mono ?_
          rintro e w3 ⟨rfl, rfl⟩
          go_wp2_with fail
          refine (LE.out _).mono ?_
          rintro e w3 ⟨rfl, rfl⟩
          go_wp2_with fail
          rw [show (s.take z1).drop z0 = sub from HSub.out.symm]
          refine (P1.out _).mono ?_
          rintro e w3 ⟨rfl, hb⟩
          have HW2 := Lib.hid (up_trans HW.out hb)
          clear hb
          go_wp2_with fail
          go_ret2
          exact ⟨by rw [HO3.out]; rfl, HW2.out⟩
        · rw [if_neg (fun h => hroom h.2)] at hco
          have HO3 := Lib.hid (HO.out.trans hco)
          have P1 := Lib.hid (fun w => PL.out a w ha s false ⟨fun h => absurd h hroom, fun _ => ⟨rfl, rfl⟩⟩)
          clear hco HCO HCP hnum hj PL
          go_wp2_with fail
          refine (LS.out _).mono ?_
          rintro e w3 ⟨rfl, rfl⟩
          go_wp2_with fail
          refine (LE.out _).mono ?_
          rintro e w3 ⟨rfl, rfl⟩
          go_wp2_with fail
          rw [show (s.take z1).drop z0 = sub from HSub.out.symm]
          refine (P1.out _).mono ?_
          rintro e w3 ⟨rfl, hb⟩
          have HW2 := Lib.hid (up_trans HW.out hb)
          clear hb
          go_wp2_with fail
          go_ret2
          exact ⟨by rw [HO3.out]; rfl, HW2.out⟩
      · have x2 : ((j : Int) != (r.length : Int)) = true := by rw [bne_iff_ne]; omega
        have hco := HCO.out
        simp only at hco
        rw [if_neg hj] at hco
        replace HO := Lib.hid (HO.out.trans hco)
        clear hco HCO HCP hnum hj PL LS LE
        go_wp2_with fail
        go_ret2
        exact ⟨by rw [HO.out]; rfl, HW.out⟩
    · have x1 : (n : Int) < (a : Int) := by omega
      have hco : O2 = none := by
        have h := HCO.out
        simp only at h
        have h9 : cmDo s f t (.cpy a) = none := by
          rw [HCP.out]
          exact if_neg (fun h => ha h.1)
        rw [h9] at h
        rw [h]
        exact ite_self none
      replace HO := Lib.hid (HO.out.trans hco)
      clear hco HCO HCP hnum PL LS LE
      go_wp2_with fail
      go_ret2
      exact ⟨by rw [HO.out]; rfl, HW.out⟩
  · rw [List.drop_zero] at hnum
    rw [hnum] at HCO
    have hco : O2 = none := HCO.out
    replace HO := Lib.hid (HO.out.trans hco)
    clear hco HCO HCP hnum PL LS LE
    rcases hx with ⟨rfl, rfl⟩ | ⟨h0, h1, j, rfl, -, hj, -⟩
    · skip
      go_wp2_with fail
      go_ret2
      exact ⟨by rw [HO.out]; rfl, HW.out⟩
    · have x0 : ¬ x < 0 := by omega
      by_cases h2 : (n : Int) < x
      · skip
        go_wp2_with fail
        go_ret2
        exact ⟨by rw [HO.out]; rfl, HW.out⟩
      · have x2 : ((j : Int) != (r.length : Int)) = true := by rw [bne_iff_ne]; omega
        go_wp2_with fail
        go_ret2
        exact ⟨by rw [HO.out]; rfl, HW.out⟩

end Go.Proofs.YtbjlkdenkmbepaaGreatDoor
