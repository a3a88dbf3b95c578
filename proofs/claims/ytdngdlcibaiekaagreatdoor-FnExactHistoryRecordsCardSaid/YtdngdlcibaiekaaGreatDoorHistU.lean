/- What is proved here: the contract of l9Texts in the reference. No condition. -/
import Derived.Test.YtdngdlcibaiekaaGreatDoorHistU0
namespace Go.Proofs.YtdngdlcibaiekaaGreatDoor
open Go.RowKit
set_option linter.unusedVariables false

theorem specApplyF_any (s : List UInt8) (x : Ch) (w : World) (hs : s.length ≤ maxLen) (hp : x.p.length ≤ 1048576) :
    Calls Tryz.prog 57 #[S s, chAgg x] w fun e w' => e = .returned (.tuple #[S (apTo s x.a x.c x.p), .bool (okF s x)]) ∧ Below w.heap.size w w' := specApplyChange_any s x.a x.c x.p w hs hp
set_option maxRecDepth 100000 in
set_option maxHeartbeats 1000000 in
theorem l9Texts_any (v : Value) (ms : List Mo) (a : Int) (s : List UInt8) (w : World) (h : RdM w v ms) (ht : tv s = true) (hn1 : 1 ≤ ms.length) (hn30 : ms.length ≤ 30) (hm0 : ms.getD 0 m0 = m0) :
    Calls Tryz.prog 69 #[.agg #[v, .int .i64 a], S s] w (TextsPost ms a s w) := by
  have hW := Below.refl w.heap.size w
  obtain ⟨A, c, rfl, _, _⟩ := h.1.form
  have H := Lib.hid h
  have hsl := tv_len ht
  have HTV := Lib.hid ht
  have HM0 := Lib.hid hm0
  obtain ⟨i0, hi, hz0, hz1, hz2⟩ := info_parts str_info
  obtain ⟨i1, hj, hy0, hy1, hy2⟩ := info_parts bool_info
  have I2 := Lib.hid (fun w => l1In_any a 0 ((ms.length : Int) - 1) w)
  clear h ht hm0
  go_enter Tryz.func69, Tryz.ntmps69
  go_upto_region 2 with (at_make; refine wpList_make_full _ rfl _ _ 34 rfl (w.heap.size + 1) 9 i0 _ 1 Tryz.underlying34 hi hz0 hz1 _ _ _ _ ms.length rfl rfl rfl rfl (by rw [hz2]; omega) (by unfold maxLen; omega) (by simp) ?_; intro w1 how hgr)
  have hb := up_grown (Below.refl _ _) hgr (fun k hk => by cases hk)
  have xc : ∀ o, w1.cell? ⟨w.heap.size, o, none⟩ = #[.slice A ms.length c, .int .i64 a][o]? := (fun o => (hb.cell (p := ⟨w.heap.size, o, none⟩) (by simp <;> omega)).trans (by simp [go_sem])); have xf : ∀ o, w1.frozen? ⟨w.heap.size, o, none⟩ = false := (fun o => (hb.frozen (p := ⟨w.heap.size, o, none⟩) (by simp <;> omega)).trans (by simp [go_sem])); have xz : w.heap.size < w1.heap.size := (by have := hb.size; (try simp at this); omega); have xy := xz
  have hW1 : Below w.heap.size w w1 := by (repeat (first | exact Below.refl _ _ | assumption | refine Below.drew ?_ | refine up_drewN ?_ _ | refine up_alloc ?_ _ | refine up_set ?_ _ _ (by first | exact Nat.le_refl _ | (simp; done) | (simp; omega) | omega) | refine up_trans ?_ (by assumption)))
  have HT1 := Lib.hid how
  clear hb hgr how xy xf
  go_upto_region 3 with (at_make; refine wpList_make_full _ rfl _ _ 136 rfl (w.heap.size + 1) 4 i1 _ 1 Tryz.underlying136 hj hy0 hy1 _ _ _ _ ms.length rfl rfl rfl rfl (by rw [hy2]; omega) (by unfold maxLen; omega) (by omega) ?_; intro w2 how hgr)
  have hb := up_grown (Below.refl _ _) hgr (fun k hk => by cases hk)
  have hw1 : w.heap.size + 1 < w1.heap.size := by have := (HT1.out.lt _ rfl).2; simpa using this
  obtain ⟨g1, hg1⟩ : ∃ g1, g1 = w.heap.size + 1 := ⟨_, rfl⟩
  obtain ⟨g2, hg2⟩ : ∃ g2, g2 = w1.heap.size := ⟨_, rfl⟩
  have R0 : Hid (RowsU w.heap.size g1 g2 ms.length (List.replicate ms.length []) (List.replicate ms.length false) w2) := by
    have h1 := own_up HT1.out hb
    have h2 := how
    rw [Nat.mul_one, show (S []).cells = #[S []] from rfl, toList_madeCells_one] at h1
    rw [Nat.mul_one, show (Value.bool false).cells = #[Value.bool false] from rfl, toList_madeCells_one] at h2
    refine Lib.hid ⟨?_, ?_, by omega⟩
    · rw [List.map_replicate, hg1]; simpa using h1
    · rw [List.map_replicate, hg2]; exact h2
  rw [← hg1, ← hg2]
  have hX1 : w.heap.size + 1 ≤ g1 := by omega
  have hX2 : w.heap.size + 1 ≤ g2 := by omega
  replace xc := up_c hb xz xc
  replace xz := Nat.lt_of_lt_of_le xz hb.size
  have HW := Lib.hid (up_trans hW1 hb)
  have xc0 := xc 0
  have xc1 := xc 1
  simp only [List.getElem?_toArray, List.getElem?_cons_zero, List.getElem?_cons_succ] at xc0 xc1
  clear hb hgr how HT1 hW1 hg1 hg2 hw1 hi hz0 hz1 hz2 hj hy0 hy1 hy2 xc i0 i1
  rcases h2 : inB a 0 ((ms.length : Int) - 1) with _ | _
  · have HN := Lib.hid (show ¬ ∃ o, HGood ms a s o from fun ⟨o, ho⟩ => by
      have i1 := ho.a0
      have i2 := ho.a1
      rw [inB_iff.2 (by omega)] at h2; cases h2)
    rw [h2] at I2
    have hW2 := HW.out
    clear h2 R0 hW
    go_wp2_with fail
    refine (I2.out _).mono ?_
    rintro e w3 ⟨rfl, rfl⟩
    go_wp2_with fail
    go_ret2
    exact ⟨_, false, rfl, hW2, .inr ⟨rfl, HN.out⟩⟩
  have h2' := inB_iff.1 h2
  rw [h2] at I2
  obtain ⟨an, rfl⟩ : ∃ an : Nat, a = an := ⟨a.toNat, by omega⟩
  have han : an < ms.length := by omega
  have HB0 := Lib.hid (Below.refl (w.heap.size + 1) w2)
  have HWI : Hid (WInv ms an an s s (List.replicate ms.length []) (List.replicate ms.length false)) := Lib.hid ⟨⟨by simp, by simp, fun o ho j hj => by
    rw [List.getD_eq_getElem?_getD, List.getElem?_replicate] at hj
    split at hj <;> simp at hj⟩, HTV.out, fun o ho => by have := ho.at_; rwa [Int.toNat_natCast] at this, .inl ⟨rfl, rfl⟩⟩
  have HH := Lib.hid (H.out.up HW.out)
  have hbW : Hid (∀ b o, A = some ⟨b, o, none⟩ → b < w.heap.size + 1) := Lib.hid (fun b o e => by
    obtain ⟨_, _, A', c', he, _, h3⟩ := H.out.1
    injection he with he
    obtain ⟨b2, o2, he2, hb2, _⟩ := h3 (by omega)
    rw [← he, e] at he2
    injection he2 with he2
    injection he2 with e1 e2 e3
    omega)
  have hX : w.heap.size < w.heap.size + 1 := Nat.lt_succ_self _
  have hXs : w.heap.size + 1 ≤ w2.heap.size := by omega
  clear h2 h2' hW H
  go_wp2_with fail
  refine (I2.out _).mono ?_
  rintro e w3 ⟨rfl, rfl⟩
  clear I2
  go_wp2_with fail
  go_loopw [8, 9] (fun i x wr => ∃ (q : Nat) (y : List UInt8) (T : List (List UInt8)) (K : List Bool), q < ms.length ∧ i = .int .i64 q ∧ x = S y ∧ Hid (WInv ms an q s y T K) ∧ Hid (RowsU w.heap.size g1 g2 ms.length T K wr) ∧ Hid (Below (w.heap.size + 1) w2 wr)) (fun i _ _ => (intOf i).toNat)
  case atStart => exact ⟨an, s, _, _, han, rfl, rfl, HWI, R0, HB0⟩
  case round =>
    obtain ⟨q, y, T, K, hq, rfl, rfl, HI, HR, HB⟩ := hrel
    clear R0 HB0 HWI
    have hyl := tv_len HI.out.2.1
    have i1 : (0 : Int) ≤ (q : Int) := by omega
    have i2 : (q : Int) < (ms.length : Int) := by omega
    have hlt := HR.out.lt
    have hwr := HB.out.size
    have z0 := (HB.out.cell (p := ⟨w.heap.size, 0, none⟩) hX).trans xc0
    have z1 := (HB.out.cell (p := ⟨w.heap.size, 1, none⟩) hX).trans xc1
    obtain ⟨b, o, rfl, hb, q0, q1, q2, q3, q4, q5, q6⟩ := HH.out.cells (k := q) hq rfl
    have hbw := hbW.out _ _ rfl
    replace q0 := (HB.out.cell (p := ⟨b, _, none⟩) hbw).trans q0
    replace q1 := (HB.out.cell (p := ⟨b, _, none⟩) hbw).trans q1
    replace q2 := (HB.out.cell (p := ⟨b, _, none⟩) hbw).trans q2
    replace q3 := (HB.out.cell (p := ⟨b, _, none⟩) hbw).trans q3
    replace q4 := (HB.out.cell (p := ⟨b, _, none⟩) hbw).trans q4
    replace q5 := (HB.out.cell (p := ⟨b, _, none⟩) hbw).trans q5
    replace q6 := (HB.out.cell (p := ⟨b, _, none⟩) hbw).trans q6
    have r0 := HR.out.cT hq
    have r1 := HR.out.cK hq
    have f0 := HR.out.fT q
    have f1 := HR.out.fK q
    have ne1 : ¬ g1 = g2 := HR.out.ne
    have ne2 : ¬ g2 = g1 := fun e => ne1 e.symm
    have ne3 : ¬ g1 = w.heap.size := by omega
    have ne4 : ¬ g2 = w.heap.size := by omega
    have ne5 : ¬ g1 = b := by omega
    have ne6 : ¬ g2 = b := by omega
    have hwi := wInv_set HI.out hq han
    have HR2 := Lib.hid ((HR.out.setT q y).setK q true)
    have HB2 := Lib.hid ((HB.out.setCell (p := ⟨g1, q, none⟩) hX1 (S y)).setCell (p := ⟨g2, q, none⟩) hX2 (.bool true))
    have hbl := (HH.out.len q).2
    have HGB := Lib.hid (show ∀ o, HGood ms an s o → 0 < q → 0 ≤ (ms.getD q m0).par ∧ (ms.getD q m0).par < q ∧ okF y (ms.getD q m0).b = true ∧ o.getD (ms.getD q m0).par.toNat [] = apF y (ms.getD q m0).b from fun o ho h0 => by
      have := ho.back h0 hq
      rw [HI.out.2.2.1 o ho] at this
      exact this)
    generalize hmm : ms.getD q m0 = m at q0 q1 q2 q3 q4 q5 q6 hbl HGB
    have HMM := Lib.hid hmm
    clear hmm
    obtain ⟨p', ⟨fa', fc', fp'⟩, ⟨ba', bc', bp'⟩⟩ := m
    simp only at q0 q1 q2 q3 q4 q5 q6 hbl HGB
    go_upto_region 10 with (fail)
    generalize hwq : World.alloc _ _ = wq
    have hbq : Below ((wr.setCell ⟨g1, q, none⟩ (S y)).setCell ⟨g2, q, none⟩ (.bool true)).heap.size ((wr.setCell ⟨g1, q, none⟩ (S y)).setCell ⟨g2, q, none⟩ (.bool true)) wq := by rw [← hwq]; exact up_alloc (Below.refl _ _) _
    have hsq : ((wr.setCell ⟨g1, q, none⟩ (S y)).setCell ⟨g2, q, none⟩ (.bool true)).heap.size = wr.heap.size := by simp [World.setCell]
    have HR3 := Lib.hid (HR2.out.up hbq)
    have HB3 := Lib.hid (HB2.out.trans (hbq.mono (by rw [hsq]; omega)))
    obtain ⟨mc, mz⟩ : (∀ j, wq.cell? ⟨wr.heap.size, j, none⟩ = #[.int .i64 p', .int .i64 fa', .int .i64 fc', S fp', .int .i64 ba', .int .i64 bc', S bp'][j]?) ∧ wr.heap.size < wq.heap.size := by
      subst hwq
      exact ⟨fun j => by simp [go_sem], by simp⟩
    have y0 := (HB3.out.cell (p := ⟨w.heap.size, 0, none⟩) hX).trans xc0
    have y1 := (HB3.out.cell (p := ⟨w.heap.size, 1, none⟩) hX).trans xc1
    clear hwq hbq hsq HR HB HR2 HB2 z0 z1 q0 q1 q2 q3 q4 q5 q6 r0 r1 f0 f1 xc0 xc1
    have hsz : w.heap.size + 1 ≤ wq.heap.size := by omega
    have hqa : q ≤ an := by rcases HI.out.2.2.2 with ⟨h, _⟩ | ⟨h, _⟩ <;> omega
    have hytv := Lib.hid HI.out.2.1
    clear HI
    generalize T.set q y = T2 at *
    generalize K.set q true = K2 at *
    clear T K
    by_cases hq0 : q = 0
    · subst hq0
      obtain ⟨j1, j2, j3, j4, j5⟩ := hwi
      have HS1 : Hid (SInv ms an 1 s T2 K2) := Lib.hid ⟨j1, j2, j3, by rw [j5]; exact hytv.out, (fun j hj => by
        have e : j = 0 := (by omega)
        rw [e]; exact j4), fun j h1 h2 => absurd h2 (by omega)⟩
      obtain ⟨w3, rfl⟩ : ∃ z, z = wq := ⟨_, rfl⟩
      have hsz3 : w.heap.size + 1 ≤ w3.heap.size := hsz
      clear j1 j2 j3 j4 j5 HGB HMM hbl mc mz hwr hlt hytv hyl hqa y1
      go_wp2_with fail
      go_loopw [13] (fun i wr => ∃ (k : Nat) (T : List (List UInt8)) (K : List Bool), 1 ≤ k ∧ k ≤ ms.length ∧ i = .int .i64 k ∧ Hid (SInv ms an k s T K) ∧ Hid (RowsU w.heap.size g1 g2 ms.length T K wr) ∧ Hid (Below (w.heap.size + 1) w3 wr)) (fun i _ => ms.length - (intOf i).toNat)
      case atStart => exact ⟨1, T2, K2, Nat.le_refl _, hn1, by first | rfl | go_num, HS1, HR3, Lib.hid (Below.refl _ _)⟩
      case round =>
        obtain ⟨k, T, K, hk1, hk, rfl, HI, HR, HB⟩ := hrel
        clear HS1 HR3
        have z0 := (HB.out.cell (p := ⟨w.heap.size, 0, none⟩) hX).trans y0
        have hXr : w.heap.size + 1 ≤ wr.heap.size := Nat.le_trans hsz3 HB.out.size
        have hF0 := Lib.hid (HW.out.trans ((HB3.out.trans HB.out).mono (show w.heap.size ≤ w.heap.size + 1 by omega)))
        by_cases hlt : k < ms.length
        · have i3 : (0 : Int) ≤ (k : Int) := by omega
          have i4 : (k : Int) < (ms.length : Int) := by omega
          have hrl := HR.out.lt
          obtain ⟨b', o', he, _, q0, q1, q2, q3, q4, q5, q6⟩ := HH.out.cells (k := k) hlt rfl
          injection he with he
          injection he with e1 e2 e3
          subst e1 e2
          clear e3
          replace q0 := ((HB3.out.trans HB.out).cell (p := ⟨b, _, none⟩) hbw).trans q0
          replace q1 := ((HB3.out.trans HB.out).cell (p := ⟨b, _, none⟩) hbw).trans q1
          replace q2 := ((HB3.out.trans HB.out).cell (p := ⟨b, _, none⟩) hbw).trans q2
          replace q3 := ((HB3.out.trans HB.out).cell (p := ⟨b, _, none⟩) hbw).trans q3
          replace q4 := ((HB3.out.trans HB.out).cell (p := ⟨b, _, none⟩) hbw).trans q4
          replace q5 := ((HB3.out.trans HB.out).cell (p := ⟨b, _, none⟩) hbw).trans q5
          replace q6 := ((HB3.out.trans HB.out).cell (p := ⟨b, _, none⟩) hbw).trans q6
          have hfl := (HH.out.len k).1
          have HST := Lib.hid (show ∀ o, HGood ms an s o → 0 ≤ (ms.getD k m0).par ∧ (ms.getD k m0).par < k ∧ okF (o.getD (ms.getD k m0).par.toNat []) (ms.getD k m0).f = true ∧ rvF (o.getD (ms.getD k m0).par.toNat []) (ms.getD k m0).f = (ms.getD k m0).b ∧ o.getD k [] = apF (o.getD (ms.getD k m0).par.toNat []) (ms.getD k m0).f from fun o ho => ho.step k (by omega) hlt)
          have HSn := Lib.hid (fun h0 h1 h2 h3 h4 => sInv_step HI.out hlt (by omega) h0 h1 h2 h3 h4)
          generalize ms.getD k m0 = m at q0 q1 q2 q3 q4 q5 q6 hfl HST HSn
          obtain ⟨p', ⟨fa', fc', fp'⟩, ⟨ba', bc', bp'⟩⟩ := m
          simp only at q0 q1 q2 q3 q4 q5 q6 hfl HST HSn
          have L2 := Lib.hid (fun w => l1In_any p' 0 ((k : Int) - 1) w)
          rcases hi : inB p' 0 ((k : Int) - 1) with _ | _
          · have HN := Lib.hid (show ¬ ∃ o, HGood ms an s o from fun ⟨o, ho⟩ => by
              have := HST.out o ho
              rw [inB_iff.2 ⟨this.1, by omega⟩] at hi; cases hi)
            rw [hi] at L2
            have hF := hF0.out
            clear hi HST HSn hF0
            go_wp2_with fail
            refine (L2.out _).mono ?_
            rintro e w4 ⟨rfl, rfl⟩
            go_wp2_with fail
            go_ret2
            exact ⟨_, false, rfl, by (repeat (first | exact Below.refl _ _ | assumption | refine Below.drew ?_ | refine up_drewN ?_ _ | refine up_alloc ?_ _ | refine up_set ?_ _ _ (by first | exact Nat.le_refl _ | (simp; done) | (simp; omega) | omega) | refine up_trans ?_ (by assumption))), .inr ⟨rfl, HN.out⟩⟩
          · rw [hi] at L2
            have hi2 := inB_iff.1 hi
            obtain ⟨pn, rfl⟩ : ∃ pn : Nat, p' = pn := ⟨p'.toNat, by omega⟩
            have hpk : pn < k := by omega
            have hpn : pn < ms.length := by omega
            rw [Int.toNat_natCast] at HST HSn
            replace HSn := Lib.hid (HSn.out (by omega) (by omega))
            have hpt := sInv_tv HI.out pn hpk
            have r0 := HR.out.cT hpn
            have r1 := HR.out.cK hpn
            rw [HI.out.2.2.2.2.1 pn hpk] at r1
            have s0 := HR.out.cT hlt
            have s1 := HR.out.cK hlt
            have HSame := Lib.hid (show ∀ o, HGood ms an s o → o.getD pn [] = T.getD pn [] ∧ (K.getD k false = true → o.getD k [] = T.getD k []) from fun o ho => ⟨HI.out.1.2.2 o ho pn (HI.out.2.2.2.2.1 pn hpk), fun h => HI.out.1.2.2 o ho k h⟩)
            clear hi hi2
            generalize T.getD pn [] = x at *
            have hxl := tv_len hpt
            have HG3 := Lib.hid (show ∀ o, HGood ms an s o → okF x ⟨fa', fc', fp'⟩ = true ∧ rvF x ⟨fa', fc', fp'⟩ = ⟨ba', bc', bp'⟩ ∧ (K.getD k false = true → apF x ⟨fa', fc', fp'⟩ = T.getD k []) from fun o ho => by
              have h1 := HST.out o ho
              rw [(HSame.out o ho).1] at h1
              exact ⟨h1.2.2.1, h1.2.2.2.1, fun hk => by rw [← (HSame.out o ho).2 hk]; exact h1.2.2.2.2.symm⟩)
            have APC := Lib.hid (fun w => specApplyF_any x ⟨fa', fc', fp'⟩ w (by unfold maxLen; omega) hfl)
            have RVC := Lib.hid (fun w => specReverse_any x ⟨fa', fc', fp'⟩ w hpt hfl)
            unfold chAgg at APC
            unfold RvPost chAgg at RVC
            simp only at APC
            have hAe : okF x ⟨fa', fc', fp'⟩ = true → apTo x fa' fc' fp' = apF x ⟨fa', fc', fp'⟩ := fun h => apTo_ok (x := ⟨fa', fc', fp'⟩) h
            have hRe : okF x ⟨fa', fc', fp'⟩ = true → (if okF x ⟨fa', fc', fp'⟩ = true then rvF x ⟨fa', fc', fp'⟩ else c0) = rvF x ⟨fa', fc', fp'⟩ := fun h => if_pos h
            generalize (if okF x ⟨fa', fc', fp'⟩ = true then rvF x ⟨fa', fc', fp'⟩ else c0) = rv at RVC hRe
            generalize apTo x fa' fc' fp' = t at APC hAe
            obtain ⟨ra, rc, rp⟩ := rv
            simp only at RVC
            generalize okF x ⟨fa', fc', fp'⟩ = ok at APC RVC hAe hRe HG3 HSn
            have hAe2 := Lib.hid hAe
            have hRe2 := Lib.hid hRe
            have j1 : (0 : Int) ≤ (pn : Int) := by omega
            have j2 : (pn : Int) < (ms.length : Int) := by omega
            clear HST HSame hAe hRe hpt HI
            go_wp2_with fail
            refine (L2.out _).mono ?_
            rintro e w4 ⟨rfl, rfl⟩
            go_upto_region 22 with (fail)
            generalize hw5 : World.alloc _ _ = w5
            have hb : Below wr.heap.size wr w5 := by rw [← hw5]; exact up_alloc (Below.refl _ _) _
            obtain ⟨mc, mz⟩ : (∀ j, w5.cell? ⟨wr.heap.size, j, none⟩ = #[.int .i64 pn, .int .i64 fa', .int .i64 fc', S fp', .int .i64 ba', .int .i64 bc', S bp'][j]?) ∧ wr.heap.size < w5.heap.size := by
              subst hw5
              exact ⟨fun j => by simp [go_sem], by simp⟩
            replace r0 := (hb.cell (p := ⟨g1, pn, none⟩) hrl.2.1).trans r0
            replace s0 := (hb.cell (p := ⟨g1, k, none⟩) hrl.2.1).trans s0
            replace s1 := (hb.cell (p := ⟨g2, k, none⟩) hrl.2.2.2).trans s1
            have HR5 := Lib.hid (HR.out.up hb)
            have HB5 := Lib.hid (HB.out.trans (hb.mono hXr))
            have gz : g1 < w5.heap.size := by omega
            have gz2 : g2 < w5.heap.size := by omega
            have hX5 : w.heap.size + 1 ≤ w5.heap.size := by omega
            clear hw5 hb q0 q1 q2 q3 q4 q5 q6 HR HB r1 z0 hF0 L2
            have hne := UpW.nonempty w5
            have C1 := Lib.hid (fun y : UpW w5 => calls_up (x := y) (APC.out (y.at w5)))
            have m0' := mc 0
            have m1' := mc 1
            have m2' := mc 2
            have m3' := mc 3
            simp only [List.getElem?_toArray, List.getElem?_cons_zero, List.getElem?_cons_succ] at m0' m1' m2' m3'
            refine wp_region_up_lit (by kernel_rfl) (by kernel_rfl) ?_
            repeat (go_big_quiet_step ((go_at_call 57; exact C1.out _)))
            refine wpQuiet_nil ?_
            intro w6 hb
            replace hb := UpW.out hb
            replace mc := up_c hb mz mc
            replace mz := Nat.lt_of_lt_of_le mz hb.size
            replace r0 := (hb.cell (p := ⟨g1, pn, none⟩) gz).trans r0
            replace s0 := (hb.cell (p := ⟨g1, k, none⟩) gz).trans s0
            replace s1 := (hb.cell (p := ⟨g2, k, none⟩) gz2).trans s1
            have HR6 := Lib.hid (HR5.out.up hb)
            have HB6 := Lib.hid (HB5.out.trans (hb.mono hX5))
            replace gz := Nat.lt_of_lt_of_le gz hb.size
            replace gz2 := Nat.lt_of_lt_of_le gz2 hb.size
            have hX6 : w.heap.size + 1 ≤ w6.heap.size := Nat.le_trans hX5 hb.size
            clear hb hne C1 HR5 HB5 APC m0' m1' m2' m3'
            go_upto_region 23 with (fail)
            --EVER{spec.l9Texts;23;l9rev}
            refine wp_region_everL (R := RV w6.heap.size [] #[.int .i64 ra, .int .i64 rc, S rp]) (M := fun _ _ => True) 0 (fun _ => True) [(vEq _ _ _ (.slice (some ⟨g1, 0, none⟩) ms.length ms.length)).l, (vEq _ _ _ (.pointer (some ⟨wr.heap.size, 0, none⟩))).l, (vEq _ _ _ (.int .i64 pn)).l, (vEq _ _ _ (.pointer (some ⟨g1, pn, none⟩))).l, (vEq _ _ _ (S x)).l, (vEq _ _ _ (.pointer (some ⟨wr.heap.size, 1, none⟩))).l, (vEq _ _ _ (.agg #[.int .i64 fa', .int .i64 fc', S fp'])).l, (vEq _ _ _ (.tuple #[.agg #[.int .i64 ra, .int .i64 rc, S rp], .bool ok])).l, (vEq _ _ _ (.tuple #[.agg #[.int .i64 ra, .int .i64 rc, S rp], .bool ok])).l, (vEq _ _ _ (.agg #[.int .i64 ra, .int .i64 rc, S rp])).l, (vEq _ _ _ (.bool ok)).l, (vBox w6.heap.size [] #[.int .i64 ra, .int .i64 rc, S rp]).l, vPut w6.heap.size [] #[.int .i64 ra, .int .i64 rc, S rp] 17, (vEq _ _ _ (.bool ok)).l] (by kernel_rfl) (RV.refl _ _ _) (fun _ _ _ => RV.trans) (by kernel_rfl) (by kernel_rfl) (trivial) (trivial) ?_ ?_
            · refine ⟨?_, ?_, ?_, ?_, ?_, ?_, ?_, ?_, ?_, ?_, ?_, ?_, ?_, ?_, trivial⟩
              · intro k' w' ρ hk' hR hM hD hF
                replace hk' : k' < 14 := hk'
                obtain ⟨f0, -⟩ := hF
                replace f0 : ρ (.tmp 6) = .slice (some ⟨g1, 0, none⟩) ms.length ms.length := f0
                exact ⟨RV.refl _ _ _ _, ⟨trivial, fun _ h => h⟩, f0, trivial⟩
              · intro k' w' ρ hk' hR hM hD hF
                replace hk' : k' < 14 := hk'
                obtain ⟨f0, -⟩ := hF
                replace f0 : ρ (.tmp 14) = .pointer (some ⟨wr.heap.size, 0, none⟩) := f0
                refine goodL_of (fun _ => trivial) fun K hK => ?_
                go_simp
                exact hK _ _ (RV.refl _ _ _ _) (⟨trivial, fun _ h => h⟩) (rfl)
              · intro k' w' ρ hk' hR hM hD hF
                replace hk' : k' < 14 := hk'
                obtain ⟨f0, -⟩ := hF
                replace f0 : ρ (.tmp 114) = .pointer (some ⟨wr.heap.size, 0, none⟩) := f0
                refine goodL_of (fun _ => trivial) fun K hK => ?_
                have z0 := (hR.of_drew.cell mz mz (by simp) 0).trans (mc 0); go_simp; exact hK _ _ (RV.refl _ _ _ _) ⟨trivial, fun _ h => h⟩ rfl
              · intro k' w' ρ hk' hR hM hD hF
                replace hk' : k' < 14 := hk'
                obtain ⟨f0, f1, -⟩ := hF
                replace f0 : ρ (.tmp 113) = .slice (some ⟨g1, 0, none⟩) ms.length ms.length := f0
                replace f1 : ρ (.tmp 115) = .int .i64 pn := f1
                refine goodL_of (fun _ => trivial) fun K hK => ?_
                go_simp
                exact hK _ _ (RV.refl _ _ _ _) (⟨trivial, fun _ h => h⟩) (rfl)
              · intro k' w' ρ hk' hR hM hD hF
                replace hk' : k' < 14 := hk'
                obtain ⟨f0, -⟩ := hF
                replace f0 : ρ (.tmp 116) = .pointer (some ⟨g1, pn, none⟩) := f0
                refine goodL_of (fun _ => trivial) fun K hK => ?_
                have z0 := (hR.of_drew.cell gz gz (by simp) pn).trans r0; go_simp; exact hK _ _ (RV.refl _ _ _ _) ⟨trivial, fun _ h => h⟩ rfl
              · intro k' w' ρ hk' hR hM hD hF
                replace hk' : k' < 14 := hk'
                obtain ⟨f0, -⟩ := hF
                replace f0 : ρ (.tmp 14) = .pointer (some ⟨wr.heap.size, 0, none⟩) := f0
                refine goodL_of (fun _ => trivial) fun K hK => ?_
                go_simp
                exact hK _ _ (RV.refl _ _ _ _) (⟨trivial, fun _ h => h⟩) (rfl)
              · intro k' w' ρ hk' hR hM hD hF
                replace hk' : k' < 14 := hk'
                obtain ⟨f0, -⟩ := hF
                replace f0 : ρ (.tmp 118) = .pointer (some ⟨wr.heap.size, 1, none⟩) := f0
                refine goodL_of (fun _ => trivial) fun K hK => ?_
                have z1 := (hR.of_drew.cell mz mz (by simp) 1).trans (mc 1); have z2 := (hR.of_drew.cell mz mz (by simp) 2).trans (mc 2); have z3 := (hR.of_drew.cell mz mz (by simp) 3).trans (mc 3); go_simp; exact hK _ _ (RV.refl _ _ _ _) ⟨trivial, fun _ h => h⟩ rfl
              · intro k' w' ρ hk' hR hM hD hF
                replace hk' : k' < 14 := hk'
                obtain ⟨f0, f1, f2, -⟩ := hF
                replace f0 : ρ (.func _) = .func (.func _) #[] #[] := f0
                replace f1 : ρ (.tmp 117) = S x := f1
                replace f2 : ρ (.tmp 119) = .agg #[.int .i64 fa', .int .i64 fc', S fp'] := f2
                refine goodL_of (fun _ => trivial) fun K hK => ?_
                go_simp; refine (RVC.out _).mono ?_; rintro e wc ⟨rfl, hb⟩; exact ⟨_, rfl, hK _ _ (RV.of_below hb) (⟨trivial, fun _ _ => trivial⟩) rfl⟩
              · intro k' w' ρ hk' hR hM hD hF
                replace hk' : k' < 14 := hk'
                obtain ⟨f0, -⟩ := hF
                replace f0 : ρ (.tmp 120) = .tuple #[.agg #[.int .i64 ra, .int .i64 rc, S rp], .bool ok] := f0
                exact ⟨RV.refl _ _ _ _, ⟨trivial, fun _ h => h⟩, f0, trivial⟩
              · intro k' w' ρ hk' hR hM hD hF
                replace hk' : k' < 14 := hk'
                obtain ⟨f0, -⟩ := hF
                replace f0 : ρ (.tmp 112) = .tuple #[.agg #[.int .i64 ra, .int .i64 rc, S rp], .bool ok] := f0
                refine goodL_of (fun _ => trivial) fun K hK => ?_
                go_simp
                exact hK _ _ (RV.refl _ _ _ _) (⟨trivial, fun _ h => h⟩) (rfl)
              · intro k' w' ρ hk' hR hM hD hF
                replace hk' : k' < 14 := hk'
                obtain ⟨f0, -⟩ := hF
                replace f0 : ρ (.tmp 112) = .tuple #[.agg #[.int .i64 ra, .int .i64 rc, S rp], .bool ok] := f0
                refine goodL_of (fun _ => trivial) fun K hK => ?_
                go_simp
                exact hK _ _ (RV.refl _ _ _ _) (⟨trivial, fun _ h => h⟩) (rfl)
              · intro k' w' ρ hk' hR hM hD hF
                replace hk' : k' < 14 := hk'
                refine goodL_of (fun _ => trivial) fun K hK => ?_
                have hBz : _ ≤ w'.heap.size := hR.size
                go_simp
                exact hK _ _ (RV.alloc _ _) (⟨trivial, fun _ _ => trivial⟩) ⟨_, rfl, hBz, by simp, vbox_mk (by rfl)⟩
              · intro k' w' ρ hk' hR hM hD hF
                replace hk' : k' < 14 := hk'
                obtain ⟨f0, f1, -⟩ := hF
                replace f1 : ρ (.tmp 121) = .agg #[.int .i64 ra, .int .i64 rc, S rp] := f1
                refine goodL_ofs fun K hK => ?_
                obtain ⟨bi, f0, bB, bz, A, bA, bI⟩ := f0
                replace f0 : ρ (.tmp 17) = .pointer (some ⟨bi, 0, none⟩) := f0
                have bI2 := put_is (V := #[.int .i64 ra, .int .i64 rc, S rp]) bI bA
                have bG := put_rv (B := w6.heap.size) (L := []) bI bA (.inl bB)
                obtain ⟨a0, a1, a2, q0, q1, q2⟩ := bI.three bA; have qf := bI.2
                clear bI bA
                go_simp
                refine hK _ _ bG (⟨trivial, fun _ _ => trivial⟩) trivial ?_
                intro i hi; replace hi := hi.symm.trans f0; cases hi; exact ⟨by simpa [putV] using bz, bI2⟩
              · intro k' w' ρ hk' hR hM hD hF
                replace hk' : k' < 14 := hk'
                obtain ⟨f0, -⟩ := hF
                replace f0 : ρ (.tmp 122) = .bool ok := f0
                exact ⟨RV.refl _ _ _ _, ⟨trivial, fun _ h => h⟩, f0, trivial⟩
            · intro w' hR hM
              rintro _ rfl -
              rintro _ rfl -
              rintro _ rfl -
              rintro _ rfl -
              rintro _ rfl -
              rintro _ rfl -
              rintro _ rfl -
              rintro _ rfl -
              rintro _ rfl -
              rintro _ rfl -
              rintro _ rfl -
              rintro _ ⟨nb, rfl, nbB, nbz, -⟩ -
              rintro _ - nbS
              rintro _ rfl -
            --END
            --END
              dsimp only [EndAllL, Act.put]
              obtain ⟨w7, rfl⟩ : ∃ z, z = w' := ⟨_, rfl⟩
              have hb : Below w6.heap.size w6 w7 := hR.to_below
              obtain ⟨nz, nc, nf⟩ := nbS nb rfl
              replace mc := up_c hb mz mc
              replace s0 := (hb.cell (p := ⟨g1, k, none⟩) gz).trans s0
              replace s1 := (hb.cell (p := ⟨g2, k, none⟩) gz2).trans s1
              have HR7 := Lib.hid (HR6.out.up hb)
              have HB7 := Lib.hid (HB6.out.trans (hb.mono hX6))
              have hX7 : w.heap.size + 1 ≤ w7.heap.size := Nat.le_trans hX6 hb.size
              have hne1 : ¬ nb = wr.heap.size := by omega
              have hne2 : ¬ wr.heap.size = nb := by omega
              have HF7 := Lib.hid (HW.out.trans ((HB3.out.trans HB7.out).mono (show w.heap.size ≤ w.heap.size + 1 by omega)))
              have f0 := HR7.out.fT k
              have f1 := HR7.out.fK k
              clear hb hR nbS HR6 HB6 RVC r0 nf
              simp only [List.setIfInBounds_toArray, List.set_cons_zero, List.set_cons_succ]
              rcases ok with _ | _
              · have HN := Lib.hid (show ¬ ∃ o, HGood ms an s o from fun ⟨o, ho⟩ => by have := (HG3.out o ho).1; cases this)
                have hF := HF7.out
                clear HG3 hAe2 hRe2 HSn
                go_wp2_with fail
                go_ret2
                exact ⟨_, false, rfl, hF, .inr ⟨rfl, HN.out⟩⟩
              · have hAt := hAe2.out rfl
                subst hAt
                have HRt := Lib.hid (hRe2.out rfl)
                have HS3 := Lib.hid (fun h1 h2 => HSn.out rfl h1 h2)
                have HG4 := Lib.hid (fun o ho => (HG3.out o ho).2)
                clear hAe2 hRe2 HSn HG3
                generalize apF x ⟨fa', fc', fp'⟩ = t at *
                generalize rvF x ⟨fa', fc', fp'⟩ = rv at *
                have hrv : rv = ⟨ra, rc, rp⟩ := HRt.out.symm
                subst hrv
                clear HRt
                generalize hkk : K.getD k false = kk at s1 HG4 HS3
                generalize htk : T.getD k [] = tk at s0 HG4 HS3
                have hF := HF7.out
                clear HF7 hkk htk
                rcases kk with _ | _
                case' false => have hway : True := trivial
                case' true => rcases Decidable.em (t = tk) with hway | hway
                case' true.inl => subst hway
                case' true.inr => have hway2 : (t == tk) = false := by simpa using hway
                all_goals
                  have HR8 := Lib.hid ((HR7.out.setT k t).setK k true)
                  have HB8 := Lib.hid ((HB7.out.setCell (p := ⟨g1, k, none⟩) hX1 (S t)).setCell (p := ⟨g2, k, none⟩) hX2 (.bool true))
                  clear HR7 HB7
                  go_upto_region 26 with (fail)
                  all_goals
                    first
                      | (fail_if_success go_not_at_region 26)
                        have HS4 := Lib.hid (HS3.out (by simp only [*]) (by first | (intro _; rfl) | (intro _; assumption) | (intro h; cases h; done)))
                        clear HS3 HG4 mc nc
                        go_wp2_with fail
                        go_roundw
                        case rel => first
                          | exact ⟨k + 1, T.set k t, K.set k true, by omega, by omega, by go_num, HS4, HR8, HB8⟩
                          | (repeat apply Exists.intro
                             exact ⟨⟨k + 1, T.set k t, K.set k true, by omega, by omega, by go_num, HS4, HR8, HB8⟩, rfl⟩)
                        case measure => simp [intOf]; omega
                      | (go_wp2_with fail
                         go_ret2
                         refine ⟨_, false, rfl, hF, .inr ⟨rfl, fun ⟨o, ho⟩ => ?_⟩⟩
                         obtain ⟨e, e2⟩ := HG4.out o ho
                         simp only [Ch.mk.injEq] at e
                         obtain ⟨e1, e3, e4⟩ := e
                         first | omega | contradiction | exact absurd (e2 trivial) hway)
        · obtain rfl : k = ms.length := by omega
          have HG := Lib.hid (sInv_end HI.out HTV.out hn1 hn30 han HM0.out)
          have HOw := Lib.hid HR.out.t
          have hF := hF0.out
          have hTl := HR.out.lenT
          clear HI HR hF0 HB
          go_wp2_with fail
          go_ret2
          refine ⟨_, true, rfl, by (repeat (first | exact Below.refl _ _ | assumption | refine Below.drew ?_ | refine up_drewN ?_ _ | refine up_alloc ?_ _ | refine up_set ?_ _ _ (by first | exact Nat.le_refl _ | (simp; done) | (simp; omega) | omega) | refine up_trans ?_ (by assumption))), .inl ⟨rfl, T, HG.out, ?_⟩⟩
          rw [hTl, stC_map]
          exact own_base HOw.out (by omega)
    · have hq1 : ((q : Int) == 0) = false := beq_eq_false_iff_ne.2 (by omega)
      have AP := Lib.hid (fun w => specApplyF_any y ⟨ba', bc', bp'⟩ w (by unfold maxLen; omega) hbl)
      unfold chAgg at AP
      simp only at AP
      have L2 := Lib.hid (fun w => l1In_any p' 0 ((q : Int) - 1) w)
      have hTv : okF y ⟨ba', bc', bp'⟩ = true → tv (apF y ⟨ba', bc', bp'⟩) = true := fun h => (okF_tv h).2
      have hAe : okF y ⟨ba', bc', bp'⟩ = true → apTo y ba' bc' bp' = apF y ⟨ba', bc', bp'⟩ := fun h => apTo_ok (x := ⟨ba', bc', bp'⟩) h
      have HG2 := Lib.hid (fun o ho => HGB.out o ho (by omega))
      clear HGB hq0
      rcases hok : okF y ⟨ba', bc', bp'⟩ with _ | _
      · have HN := Lib.hid (show ¬ ∃ o, HGood ms an s o from fun ⟨o, ho⟩ => by have := (HG2.out o ho).2.2.1; rw [hok] at this; cases this)
        rw [hok] at AP
        clear hok hTv hAe HG2
        go_wp2_with fail
        refine (AP.out _).mono ?_
        rintro e w4 ⟨rfl, hb4⟩
        have hF : Below w.heap.size w w4 := HW.out.trans ((HB3.out.trans (hb4.mono hsz)).mono (by omega))
        clear hb4
        go_wp2_with fail
        go_ret2
        exact ⟨_, false, rfl, hF, .inr ⟨rfl, HN.out⟩⟩
      · rw [hok, hAe hok] at AP
        have hT := Lib.hid (hTv hok)
        clear hok hTv hAe
        generalize apF y ⟨ba', bc', bp'⟩ = t at *
        rcases hi : inB p' 0 ((q : Int) - 1) with _ | _
        · have HN := Lib.hid (show ¬ ∃ o, HGood ms an s o from fun ⟨o, ho⟩ => by
            have := HG2.out o ho
            rw [inB_iff.2 ⟨this.1, by omega⟩] at hi; cases hi)
          rw [hi] at L2
          clear hi HG2
          go_wp2_with fail
          refine (AP.out _).mono ?_
          rintro e w4 ⟨rfl, hb4⟩
          have hF : Below w.heap.size w w4 := HW.out.trans ((HB3.out.trans (hb4.mono hsz)).mono (by omega))
          have m0' := (hb4.cell (p := ⟨wr.heap.size, 0, none⟩) mz).trans (mc 0)
          clear hb4
          go_wp2_with fail
          refine (L2.out _).mono ?_
          rintro e w5 ⟨rfl, rfl⟩
          go_wp2_with fail
          go_ret2
          exact ⟨_, false, rfl, hF, .inr ⟨rfl, HN.out⟩⟩
        · rw [hi] at L2
          have hi2 := inB_iff.1 hi
          obtain ⟨pn, rfl⟩ : ∃ pn : Nat, p' = pn := ⟨p'.toNat, by omega⟩
          have hpq : pn < q := by omega
          have HWn : Hid (WInv ms an pn s t T2 K2) := Lib.hid ⟨hwi.1, hT.out, fun o ho => by have := (HG2.out o ho).2.2.2; rwa [Int.toNat_natCast] at this, .inr ⟨by omega, hwi.2.1, hwi.2.2.1⟩⟩
          clear hi hi2 HG2 hwi
          go_wp2_with fail
          refine (AP.out _).mono ?_
          rintro e w4 ⟨rfl, hb4⟩
          have HB4 := Lib.hid (HB3.out.trans (hb4.mono hsz))
          have HR4 := Lib.hid (HR3.out.up hb4)
          have m0' := (hb4.cell (p := ⟨wr.heap.size, 0, none⟩) mz).trans (mc 0)
          clear hb4 mc AP
          go_wp2_with fail
          refine (L2.out _).mono ?_
          rintro e w5 ⟨rfl, rfl⟩
          go_wp2_with fail
          go_roundw
          case rel => exact ⟨pn, t, T2, K2, by omega, rfl, rfl, HWn, HR4, HB4⟩
          case measure => simp [intOf]; omega

end Go.Proofs.YtdngdlcibaiekaaGreatDoor
