/- What is proved here: the contract of texts in the program. No condition. -/
import Derived.Test.YtdngdlcibaiekaaGreatDoorHistM
import Derived.Deep.Cut
import Derived.Deep.CutRange
namespace Go.Proofs.YtdngdlcibaiekaaGreatDoor
open Go.RowKit

def stC (l : List UInt8) : List Value := [S l]
theorem stC_len (l : List UInt8) : (stC l).length = 1 := rfl
def TextsPost (ms : List Mo) (a : Int) (s : List UInt8) (w : World) (e : Ending) (w' : World) : Prop :=
  ∃ v ok, e = .returned (.tuple #[v, .bool ok]) ∧ Below w.heap.size w w' ∧ ((ok = true ∧ ∃ o, HGood ms a s o ∧ Own w' w.heap.size 9 1 v o.length (o.flatMap stC)) ∨ (ok = false ∧ ¬ ∃ o, HGood ms a s o))

def ParTo (ms : List Mo) (k : Nat) : Prop := ∀ j, 0 < j → j ≤ k → 0 ≤ (ms.getD j m0).par ∧ (ms.getD j m0).par < j
theorem str_info : (Tryz.prog.info? 9).map (fun i => (i.zero, i.size, i.bytes)) = some (some (S []), 1, 16) := by kernel_rfl
def OutTo (ms : List Mo) (y : List UInt8) (out : List (List UInt8)) (k : Nat) : Prop := out.length = k + 1 ∧ out.getD 0 [] = y ∧ ∀ j, 0 < j → j < k + 1 → Step ms out j
theorem getD_app {α : Type} (l : List α) (x d : α) (k : Nat) (hk : k < l.length) : (l ++ [x]).getD k d = l.getD k d := by
  rw [List.getD_eq_getElem?_getD, List.getD_eq_getElem?_getD, List.getElem?_append_left hk]
theorem getD_last {α : Type} (l : List α) (x d : α) : (l ++ [x]).getD l.length d = x := by
  rw [List.getD_eq_getElem?_getD, List.getElem?_append_right (Nat.le_refl _), Nat.sub_self]; rfl
theorem step_app {ms : List Mo} {out : List (List UInt8)} {x : List UInt8} {j : Nat} (h : Step ms out j) (hj : j < out.length) : Step ms (out ++ [x]) j := by
  obtain ⟨h1, h2, h3, h4, h5⟩ := h
  unfold Step
  rw [getD_app _ _ _ _ (by omega), getD_app _ _ _ _ hj]
  exact ⟨h1, h2, h3, h4, h5⟩
theorem outTo_snoc {ms : List Mo} {y : List UInt8} {out : List (List UInt8)} {k : Nat} {m : Mo} (h : OutTo ms y out k) (hm : ms.getD (k + 1) m0 = m) (h0 : 0 ≤ m.par) (h1 : m.par < ((k + 1 : Nat) : Int)) (hf : okF (out.getD m.par.toNat []) m.f = true) (hr : rvF (out.getD m.par.toNat []) m.f = m.b) :
    OutTo ms y (out ++ [apF (out.getD m.par.toNat []) m.f]) (k + 1) := by
  obtain ⟨a1, a2, a3⟩ := h
  refine ⟨by rw [List.length_append, a1]; rfl, by rw [getD_app _ _ _ _ (by omega)]; exact a2, fun j hj hk => ?_⟩
  by_cases e : j = k + 1
  · subst e
    unfold Step
    rw [hm, getD_app _ _ _ _ (by omega), show k + 1 = out.length from a1.symm, getD_last]
    exact ⟨h0, by rw [a1]; exact h1, hf, hr, rfl⟩
  · exact step_app (a3 j hj (by omega)) (by omega)
theorem outTo_tv {ms : List Mo} {y : List UInt8} {out : List (List UInt8)} {k : Nat} (h : OutTo ms y out k) (hy : tv y = true) (j : Nat) (hj : j ≤ k) : tv (out.getD j []) = true := by
  by_cases h0 : j = 0
  · subst h0; rw [h.2.1]; exact hy
  · obtain ⟨_, _, h3, _, h5⟩ := h.2.2 j (by omega) (by omega)
    rw [h5]; exact (okF_tv h3).2
theorem outTo_good {ms : List Mo} {a : Int} {s y : List UInt8} {out o : List (List UInt8)} {k : Nat} (h : OutTo ms y out k) (hg : HGood ms a s o) (h0 : o.getD 0 [] = y) (j : Nat) (hj : j ≤ k) (hjm : j < ms.length) : out.getD j [] = o.getD j [] :=
  good_same hg (h0.trans h.2.1.symm) h.2.2 j (by omega) hjm
theorem getD_at {α : Type} (l : List α) (d : α) (k : Nat) (hk : k < l.length) : l.getD k d = l[k] := by
  rw [List.getD_eq_getElem?_getD, List.getElem?_eq_getElem hk]; rfl

set_option maxRecDepth 100000 in
set_option maxHeartbeats 1000000 in
theorem implTexts_any (v : Value) (ms : List Mo) (a : Int) (s : List UInt8) (w : World) (h : RdM w v ms) (hn : ms.length ≤ 1048576) (hs : s.length ≤ maxLen) :
    Calls Tryz.prog 70 #[.agg #[v, .int .i64 a], S s] w (TextsPost ms a s w) := by
  have hW := Below.refl w.heap.size w
  obtain ⟨A, c, rfl, _, _⟩ := h.1.form
  have H := Lib.hid h
  have T := Lib.hid (fun w => implTextValid_any s w hs)
  have I1 := Lib.hid (fun w => in_any (ms.length : Int) 1 30 w)
  have I2 := Lib.hid (fun w => in_any a 0 ((ms.length : Int) - 1) w)
  rcases ht : tv s with _ | _
  · have HN := Lib.hid (show ¬ ∃ o, HGood ms a s o from fun ⟨o, ho⟩ => by have := ho.t; rw [ht] at this; cases this)
    rw [ht] at T
    clear ht I1 I2 h H
    go_enter Tryz.func70, Tryz.ntmps70
    go_wp2_with fail
    refine (T.out _).mono ?_
    rintro e w1 ⟨rfl, rfl⟩
    go_wp2_with fail
    go_ret2
    exact ⟨_, false, rfl, by (repeat (first | exact Below.refl _ _ | assumption | refine Below.drew ?_ | refine up_drewN ?_ _ | refine up_alloc ?_ _ | refine up_set ?_ _ _ (by first | exact Nat.le_refl _ | (simp; done) | (simp; omega) | omega) | refine up_trans ?_ (by assumption))), .inr ⟨rfl, HN.out⟩⟩
  rcases h1 : inB (ms.length : Int) 1 30 with _ | _
  · have HN := Lib.hid (show ¬ ∃ o, HGood ms a s o from fun ⟨o, ho⟩ => by
      have i1 := ho.n1
      have i2 := ho.n30
      rw [inB_iff.2 (by omega)] at h1; cases h1)
    rw [ht] at T
    rw [h1] at I1
    clear ht h1 I2 h H
    go_enter Tryz.func70, Tryz.ntmps70
    go_wp2_with fail
    refine (T.out _).mono ?_
    rintro e w1 ⟨rfl, rfl⟩
    go_wp2_with fail
    refine (I1.out _).mono ?_
    rintro e w1 ⟨rfl, rfl⟩
    go_wp2_with fail
    go_ret2
    exact ⟨_, false, rfl, by (repeat (first | exact Below.refl _ _ | assumption | refine Below.drew ?_ | refine up_drewN ?_ _ | refine up_alloc ?_ _ | refine up_set ?_ _ _ (by first | exact Nat.le_refl _ | (simp; done) | (simp; omega) | omega) | refine up_trans ?_ (by assumption))), .inr ⟨rfl, HN.out⟩⟩
  rcases h2 : inB a 0 ((ms.length : Int) - 1) with _ | _
  · have HN := Lib.hid (show ¬ ∃ o, HGood ms a s o from fun ⟨o, ho⟩ => by
      have i1 := ho.a0
      have i2 := ho.a1
      rw [inB_iff.2 (by omega)] at h2; cases h2)
    rw [ht] at T
    rw [h1] at I1
    rw [h2] at I2
    clear ht h1 h2 h H
    go_enter Tryz.func70, Tryz.ntmps70
    go_wp2_with fail
    refine (T.out _).mono ?_
    rintro e w1 ⟨rfl, rfl⟩
    go_wp2_with fail
    refine (I1.out _).mono ?_
    rintro e w1 ⟨rfl, rfl⟩
    go_wp2_with fail
    refine (I2.out _).mono ?_
    rintro e w1 ⟨rfl, rfl⟩
    go_wp2_with fail
    go_ret2
    exact ⟨_, false, rfl, by (repeat (first | exact Below.refl _ _ | assumption | refine Below.drew ?_ | refine up_drewN ?_ _ | refine up_alloc ?_ _ | refine up_set ?_ _ _ (by first | exact Nat.le_refl _ | (simp; done) | (simp; omega) | omega) | refine up_trans ?_ (by assumption))), .inr ⟨rfl, HN.out⟩⟩
  have h1' := inB_iff.1 h1
  have h2' := inB_iff.1 h2
  have HTV := Lib.hid ht
  rw [ht] at T
  rw [h1] at I1
  rw [h2] at I2
  clear ht h1 h2 h
  generalize hm : ms.getD 0 m0 = m at *
  have HM := Lib.hid hm
  clear hm
  obtain ⟨p, ⟨fa, fc, fp⟩, ⟨ba, bc, bp⟩⟩ := m
  go_enter Tryz.func70, Tryz.ntmps70
  go_wp2_with fail
  refine (T.out _).mono ?_
  rintro e w1 ⟨rfl, rfl⟩
  go_wp2_with fail
  refine (I1.out _).mono ?_
  rintro e w1 ⟨rfl, rfl⟩
  go_wp2_with fail
  refine (I2.out _).mono ?_
  rintro e w1 ⟨rfl, rfl⟩
  have hH := RdM.up H.out (show Below w.heap.size w (w.alloc (.cells #[.slice A ms.length c, .int .i64 a] 50)) by (repeat (first | exact Below.refl _ _ | assumption | refine Below.drew ?_ | refine up_drewN ?_ _ | refine up_alloc ?_ _ | refine up_set ?_ _ _ (by first | exact Nat.le_refl _ | (simp; done) | (simp; omega) | omega) | refine up_trans ?_ (by assumption))))
  obtain ⟨b, o, rfl, hb, q0, q1, q2, q3, q4, q5, q6⟩ := hH.cells (k := 0) (by omega) HM.out
  simp only [Nat.zero_mul, Nat.add_zero] at q0 q1 q2 q3 q4 q5 q6
  have HNE : Hid (∀ o, HGood ms a s o → p = -1 ∧ fa = 0 ∧ fc = 0 ∧ fp = [] ∧ ba = 0 ∧ bc = 0 ∧ bp = []) := Lib.hid (fun o ho => by
    have e := ho.m.symm.trans HM.out
    simp only [m0, c0, Mo.mk.injEq, Ch.mk.injEq] at e
    exact ⟨e.1.symm, e.2.1.1.symm, e.2.1.2.1.symm, e.2.1.2.2.symm, e.2.2.1.symm, e.2.2.2.1.symm, e.2.2.2.2.symm⟩)
  clear T I1 I2 hH
  go_upto_region 4 with (fail)
  · clear HNE
    go_cut [50, 51, 52] from 48 to 52 (fun v50 v51 v52 wx => ∃ A2 c2, v50 = .slice A2 (ms.length - 1) c2 ∧ v51 = .int .i64 ((ms.length - 1 : Nat) : Int) ∧ v52 = .int .i64 0 ∧ (1 < ms.length → A2 = some ⟨b, o + 7, none⟩) ∧ wx = w.alloc (.cells #[.slice (some ⟨b, o, none⟩) ms.length c, .int .i64 a] 50))
    case first =>
      have k1 : (1 : Int) ≤ (ms.length : Int) := by omega
      have k2 : (1 : Int) ≤ (c : Int) := by omega
      have k3 : (ms.length : Int) ≤ (c : Int) := by omega
      by_cases hc1 : c = 1
      · go_wp2_with fail
        go_meet
        exact ⟨_, _, rfl, rfl, rfl, fun h => absurd h (by omega), by rw [hc1]⟩
      · have k4 : ¬ (c : Int) = 1 := by omega
        go_wp2_with fail
        go_meet
        exact ⟨_, _, rfl, rfl, rfl, fun _ => rfl, rfl⟩
    case rest =>
    obtain ⟨A2, c2, rfl, rfl, rfl, hA2, hwc⟩ := hcut
    have xc : ∀ q, wc.cell? ⟨w.heap.size, q, none⟩ = #[.slice (some ⟨b, o, none⟩) ms.length c, .int .i64 a][q]? := by subst hwc; exact fun q => by simp [go_sem]
    have xz : w.heap.size < wc.heap.size := by subst hwc; simp
    have HH := Lib.hid (H.out.up (show Below w.heap.size w wc by subst hwc; (repeat (first | exact Below.refl _ _ | assumption | refine Below.drew ?_ | refine up_drewN ?_ _ | refine up_alloc ?_ _ | refine up_set ?_ _ _ (by first | exact Nat.le_refl _ | (simp; done) | (simp; omega) | omega) | refine up_trans ?_ (by assumption)))))
    have HW1 := Lib.hid (show Below w.heap.size w wc by subst hwc; (repeat (first | exact Below.refl _ _ | assumption | refine Below.drew ?_ | refine up_drewN ?_ _ | refine up_alloc ?_ _ | refine up_set ?_ _ _ (by first | exact Nat.le_refl _ | (simp; done) | (simp; omega) | omega) | refine up_trans ?_ (by assumption))))
    have hM0 : Hid (ms.getD 0 m0 = m0) := Lib.hid (by rw [HM.out]; simp only [*]; rfl)
    obtain ⟨an, rfl⟩ : ∃ an : Nat, a = an := ⟨a.toNat, by omega⟩
    have han : an < ms.length := by omega
    have hn30 : ms.length ≤ 30 := by omega
    have hn1 : 1 ≤ ms.length := by omega
    have hbw : b < w.heap.size + 1 := by simpa using hb
    clear q0 q1 q2 q3 q4 q5 q6 H HM hb h1' h2' hW hwc
    obtain ⟨w1, rfl⟩ : ∃ z, z = wc := ⟨_, rfl⟩
    have xc0 := xc 0
    have xc1 := xc 1
    simp only [List.getElem?_toArray, List.getElem?_cons_zero, List.getElem?_cons_succ] at xc0 xc1
    clear xc
    have hml1 : ((ms.length - 1 : Nat) : Int) ≤ 30 := by omega
    go_wp2_with fail
    go_loopw [52] (fun i wr => ∃ k : Nat, k ≤ ms.length - 1 ∧ i = .int .i64 k ∧ Hid (ParTo ms k) ∧ Hid (Below w1.heap.size w1 wr)) (fun i _ => ms.length - (intOf i).toNat)
    case atStart => exact ⟨0, Nat.zero_le _, by first | rfl | go_num, Lib.hid (fun j h1 h2 => absurd h2 (by omega)), Lib.hid (Below.refl _ _)⟩
    case round =>
      obtain ⟨k, hk, rfl, HP, HB⟩ := hrel
      have xz' : w.heap.size < wr.heap.size := Nat.lt_of_lt_of_le xz HB.out.size
      have y0 := (HB.out.cell (p := ⟨w.heap.size, 0, none⟩) xz).trans xc0
      have y1 := (HB.out.cell (p := ⟨w.heap.size, 1, none⟩) xz).trans xc1
      clear xc0 xc1
      by_cases hlt : k < ms.length - 1
      · have i1 : (0 : Int) ≤ (k : Int) := by omega
        have i2 : (k : Int) < ((ms.length - 1 : Nat) : Int) := by omega
        obtain rfl := hA2 (by omega)
        obtain ⟨b', o', he, hb, q0, q1, q2, q3, q4, q5, q6⟩ := (HH.out.up HB.out).cells (k := k + 1) (by omega) rfl
        injection he with he
        injection he with e1 e2 e3
        subst e1 e2
        have ea : o + (k + 1) * 7 = o + 7 + k * 7 := by omega
        rw [ea] at q0 q1 q2 q3 q4 q5 q6
        clear ea e3
        have HPar := Lib.hid (show ∀ o, HGood ms an s o → 0 ≤ (ms.getD (k + 1) m0).par ∧ (ms.getD (k + 1) m0).par ≤ k from fun o ho => by
          obtain ⟨h1, h2, _⟩ := ho.step (k + 1) (by omega) (by omega); exact ⟨h1, by omega⟩)
        have HPS := Lib.hid (show 0 ≤ (ms.getD (k + 1) m0).par ∧ (ms.getD (k + 1) m0).par ≤ k → ParTo ms (k + 1) from fun h j h1 h2 => by
          by_cases e : j = k + 1
          · subst e; exact ⟨h.1, by omega⟩
          · exact HP.out j h1 (by omega))
        generalize ms.getD (k + 1) m0 = m at *
        obtain ⟨p', ⟨fa', fc', fp'⟩, ⟨ba', bc', bp'⟩⟩ := m
        simp only at q0 q1 q2 q3 q4 q5 q6 HPar HPS
        go_wp2_with fail
        refine (in_any p' 0 k _).mono ?_
        rcases hi : inB p' 0 k with _ | _
        · rintro e w2 ⟨rfl, rfl⟩
          have HN := Lib.hid (show ¬ ∃ o, HGood ms an s o from fun ⟨o, ho⟩ => by
            have := HPar.out o ho
            rw [inB_iff.2 this] at hi
            cases hi)
          have hB2 := HB.out
          have hW2 := HW1.out
          clear hi HPar HPS
          go_wp2_with fail
          go_ret2
          exact ⟨_, false, rfl, by (repeat (first | exact Below.refl _ _ | assumption | refine Below.drew ?_ | refine up_drewN ?_ _ | refine up_alloc ?_ _ | refine up_set ?_ _ _ (by first | exact Nat.le_refl _ | (simp; done) | (simp; omega) | omega) | refine up_trans ?_ (by assumption))), .inr ⟨rfl, HN.out⟩⟩
        · rintro e w2 ⟨rfl, rfl⟩
          have HP2 := Lib.hid (HPS.out (inB_iff.1 hi))
          have hB2 := HB.out
          clear hi HPar HPS
          go_wp2_with fail
          go_roundw
          case rel => exact ⟨k + 1, by omega, by go_num, HP2, Lib.hid (by (repeat (first | exact Below.refl _ _ | assumption | refine Below.drew ?_ | refine up_drewN ?_ _ | refine up_alloc ?_ _ | refine up_set ?_ _ _ (by first | exact Nat.le_refl _ | (simp; done) | (simp; omega) | omega) | refine up_trans ?_ (by assumption))))⟩
          case measure => simp [intOf]; omega
      · obtain rfl : k = ms.length - 1 := by omega
        clear hA2
        obtain ⟨w2, rfl⟩ : ∃ z, z = wr := ⟨_, rfl⟩
        have HW2 := Lib.hid (up_trans HW1.out HB.out)
        replace HH := RdM.hup HH HB.out
        clear HB HW1
        have hTV : tv s = true := HTV.out
        have HS0 : Hid (tv s = true ∧ ∀ o, HGood ms an s o → o.getD an [] = s) := Lib.hid ⟨hTV, fun o ho => by have := ho.at_; rwa [Int.toNat_natCast] at this⟩
        clear hTV
        go_wp2_with fail
        go_loopw [9, 10] (fun x i wr => ∃ (q : Nat) (y : List UInt8), q < ms.length ∧ i = .int .i64 q ∧ x = S y ∧ Hid (tv y = true ∧ ∀ o, HGood ms an s o → o.getD q [] = y) ∧ Hid (Below w2.heap.size w2 wr)) (fun _ i _ => (intOf i).toNat)
        case atStart => exact ⟨an, s, han, rfl, rfl, HS0, Lib.hid (Below.refl _ _)⟩
        case round =>
          obtain ⟨q, y, hq, rfl, rfl, HY, HB⟩ := hrel
          clear HS0
          have z0 := (HB.out.cell (p := ⟨w.heap.size, 0, none⟩) xz').trans y0
          have z1 := (HB.out.cell (p := ⟨w.heap.size, 1, none⟩) xz').trans y1
          have xz2 : w.heap.size < wr.heap.size := Nat.lt_of_lt_of_le xz' HB.out.size
          by_cases hq0 : 0 < q
          · have i1 : (0 : Int) < (q : Int) := by omega
            have i2 : (q : Int) < (ms.length : Int) := by omega
            have HHr := RdM.hup HH HB.out
            obtain ⟨b', o', he, hb, q0, q1, q2, q3, q4, q5, q6⟩ := HHr.out.cells (k := q) hq rfl
            injection he with he
            injection he with e1 e2 e3
            subst e1 e2
            clear e3
            have hpar := HP.out q hq0 (by omega)
            have hpl := (HH.out.len q).2
            have HBk := Lib.hid (show ∀ o, HGood ms an s o → okF y (ms.getD q m0).b = true ∧ o.getD (ms.getD q m0).par.toNat [] = apF y (ms.getD q m0).b from fun o ho => by
              have := ho.back hq0 hq
              rw [HY.out.2 o ho] at this
              exact this.2.2)
            generalize ms.getD q m0 = m at *
            obtain ⟨p', f', ⟨ba', bc', bp'⟩⟩ := m
            simp only at q0 q1 q2 q3 q4 q5 q6 hpar hpl HBk
            obtain ⟨pn, rfl⟩ : ∃ pn : Nat, p' = pn := ⟨p'.toNat, by omega⟩
            rw [Int.toNat_natCast] at HBk
            have AP := Lib.hid (fun w => applyF_any y ⟨ba', bc', bp'⟩ w HY.out.1 hpl)
            unfold AplPost chAgg at AP
            simp only at AP
            have HTv := Lib.hid (show okF y ⟨ba', bc', bp'⟩ = true → tv (apF y ⟨ba', bc', bp'⟩) = true from fun h => (okF_tv h).2)
            go_wp2_with fail
            refine (AP.out _).mono ?_
            rintro e w3 ⟨t, rfl, ht, hb3⟩
            have c0 := (hb3.cell (p := ⟨b, o + q * 7, none⟩) hb).trans q0
            have d0 := (hb3.cell (p := ⟨w.heap.size, 0, none⟩) xz2).trans z0
            have hB3 := up_trans HB.out hb3
            clear q0 q1 q2 q3 q4 q5 q6 z0 z1 AP
            generalize okF y ⟨ba', bc', bp'⟩ = ok at *
            rcases ok with _ | _
            · have HN := Lib.hid (show ¬ ∃ o, HGood ms an s o from fun ⟨o, ho⟩ => by have := (HBk.out o ho).1; cases this)
              have hW2 := HW2.out
              clear HBk HTv ht
              go_wp2_with fail
              go_ret2
              exact ⟨_, false, rfl, by (repeat (first | exact Below.refl _ _ | assumption | refine Below.drew ?_ | refine up_drewN ?_ _ | refine up_alloc ?_ _ | refine up_set ?_ _ _ (by first | exact Nat.le_refl _ | (simp; done) | (simp; omega) | omega) | refine up_trans ?_ (by assumption))), .inr ⟨rfl, HN.out⟩⟩
            · obtain rfl := ht rfl
              have HY2 : Hid (tv (apF y ⟨ba', bc', bp'⟩) = true ∧ ∀ o, HGood ms an s o → o.getD pn [] = apF y ⟨ba', bc', bp'⟩) := Lib.hid ⟨HTv.out rfl, fun o ho => (HBk.out o ho).2⟩
              clear HBk HTv ht HY
              generalize apF y ⟨ba', bc', bp'⟩ = t at *
              go_wp2_with fail
              go_roundw
              case rel => exact ⟨pn, t, by omega, rfl, rfl, HY2, Lib.hid hB3⟩
              case measure => simp [intOf]; omega
          · obtain rfl : q = 0 := by omega
            obtain ⟨w3, rfl⟩ : ∃ z, z = wr := ⟨_, rfl⟩
            replace HH := RdM.hup HH HB.out
            have HW3 := Lib.hid (up_trans HW2.out HB.out)
            have hyl := tv_len HY.out.1
            clear HB HW2 y0 y1
            have hX : w.heap.size + 1 ≤ w3.heap.size := by omega
            go_upto_region 19 with (fail)
            generalize hw4 : w3.alloc _ = w4
            have hb4 : Below w3.heap.size w3 w4 := by rw [← hw4]; (repeat (first | exact Below.refl _ _ | assumption | refine Below.drew ?_ | refine up_drewN ?_ _ | refine up_alloc ?_ _ | refine up_set ?_ _ _ (by first | exact Nat.le_refl _ | (simp; done) | (simp; omega) | omega) | refine up_trans ?_ (by assumption)))
            have HO : Hid (Own w4 (w.heap.size + 1) 9 1 (.slice (some ⟨w3.heap.size, 0, none⟩) 1 1) (0 + 1) ([y].flatMap stC)) := Lib.hid (by
              rw [← hw4]
              exact World.ownsRow_lit (base := w.heap.size + 1) (e := 9) (size := 1) w3 #[S y] 1 hX (by decide) rfl)
            have u0 := (hb4.cell (p := ⟨w.heap.size, 0, none⟩) xz2).trans z0
            have u1 := (hb4.cell (p := ⟨w.heap.size, 1, none⟩) xz2).trans z1
            have hX4 : w.heap.size + 1 ≤ w4.heap.size := Nat.le_trans hX hb4.size
            replace HH := RdM.hup HH hb4
            replace HW3 := Lib.hid (up_trans HW3.out hb4)
            clear hw4 hb4 z0 z1 hX
            go_cut [92, 93, 94] from 90 to 94 (fun v50 v51 v52 wx => ∃ A2 c2, v50 = .slice A2 (ms.length - 1) c2 ∧ v51 = .int .i64 ((ms.length - 1 : Nat) : Int) ∧ v52 = .int .i64 0 ∧ (1 < ms.length → A2 = some ⟨b, o + 7, none⟩) ∧ wx = w4)
            case first =>
              have k1 : (1 : Int) ≤ (ms.length : Int) := by omega
              have k3 : (ms.length : Int) ≤ (c : Int) := by obtain ⟨A', c', he, _, hc'⟩ := HH.out.1.form; injection he with _ _ he; subst he; omega
              have k2 : (1 : Int) ≤ (c : Int) := by omega
              by_cases hc1 : c = 1
              · go_wp2_with fail
                go_meet
                exact ⟨_, _, rfl, rfl, rfl, fun h => absurd h (by omega), rfl⟩
              · have k4 : ¬ (c : Int) = 1 := by omega
                go_wp2_with fail
                go_meet
                exact ⟨_, _, rfl, rfl, rfl, fun _ => rfl, rfl⟩
            case rest =>
            obtain ⟨A3, c3, rfl, rfl, rfl, hA3, hwc⟩ := hcut
            subst hwc
            obtain ⟨w4, rfl⟩ : ∃ z, z = wc := ⟨_, rfl⟩
            obtain ⟨i0, hi, hz0, hz1, hz2⟩ := info_parts str_info
            have HY0 : Hid (OutTo ms y [y] 0) := Lib.hid ⟨rfl, rfl, fun j h1 h2 => absurd h2 (by omega)⟩
            go_wp2_with fail
            go_loopw [13, 94] (fun v i wr => ∃ (k : Nat) (out : List (List UInt8)) (v0 : Value), k ≤ ms.length - 1 ∧ i = .int .i64 k ∧ v0 = v ∧ Hid (OutTo ms y out k) ∧ Hid (Own wr (w.heap.size + 1) 9 1 v (k + 1) (out.flatMap stC)) ∧ Hid (Below (w.heap.size + 1) w4 wr)) (fun _ i _ => ms.length - (intOf i).toNat)
            case atStart => exact ⟨0, [y], _, Nat.zero_le _, by first | rfl | go_num, rfl, HY0, HO, Lib.hid (Below.refl _ _)⟩
            case round =>
              obtain ⟨k, out, v0, hk, rfl, rfl, HT, HO, HB⟩ := hrel
              clear HY0
              have hXr : w.heap.size + 1 ≤ wr.heap.size := Nat.le_trans hX4 HB.out.size
              have t0 := (HB.out.cell (p := ⟨w.heap.size, 0, none⟩) (show w.heap.size < w.heap.size + 1 by omega)).trans u0
              have t1 := (HB.out.cell (p := ⟨w.heap.size, 1, none⟩) (show w.heap.size < w.heap.size + 1 by omega)).trans u1
              clear u0 u1
              have hol := HT.out.1
              have hform := (RdL.of_own (f := stC) (bs := out) (by rw [hol]; exact HO.out)).form
              rw [hol] at hform
              obtain ⟨OA, oc, rfl, _, _⟩ := hform
              by_cases hlt : k < ms.length - 1
              · have i1 : (0 : Int) ≤ (k : Int) := by omega
                have i2 : (k : Int) < ((ms.length - 1 : Nat) : Int) := by omega
                obtain rfl := hA3 (by omega)
                obtain ⟨b', o', he, _, q0, q1, q2, q3, q4, q5, q6⟩ := HH.out.cells (k := k + 1) (by omega) rfl
                injection he with he
                injection he with e1 e2 e3
                subst e1 e2
                have ea : o + (k + 1) * 7 = o + 7 + k * 7 := by omega
                rw [ea] at q0 q1 q2 q3 q4 q5 q6
                clear ea e3
                replace q0 := (HB.out.cell (p := ⟨b, _, none⟩) hbw).trans q0
                replace q1 := (HB.out.cell (p := ⟨b, _, none⟩) hbw).trans q1
                replace q2 := (HB.out.cell (p := ⟨b, _, none⟩) hbw).trans q2
                replace q3 := (HB.out.cell (p := ⟨b, _, none⟩) hbw).trans q3
                replace q4 := (HB.out.cell (p := ⟨b, _, none⟩) hbw).trans q4
                replace q5 := (HB.out.cell (p := ⟨b, _, none⟩) hbw).trans q5
                replace q6 := (HB.out.cell (p := ⟨b, _, none⟩) hbw).trans q6
                have hpar := HP.out (k + 1) (by omega) (by omega)
                have hfl := (HH.out.len (k + 1)).1
                have HST := Lib.hid (show ∀ o, HGood ms an s o → okF (o.getD (ms.getD (k + 1) m0).par.toNat []) (ms.getD (k + 1) m0).f = true ∧ rvF (o.getD (ms.getD (k + 1) m0).par.toNat []) (ms.getD (k + 1) m0).f = (ms.getD (k + 1) m0).b from fun o ho => by
                  obtain ⟨_, _, h3, h4, _⟩ := ho.step (k + 1) (by omega) (by omega)
                  exact ⟨h3, h4⟩)
                have HSn := Lib.hid (fun h0 h1 h2 h3 => outTo_snoc (m := ms.getD (k + 1) m0) HT.out rfl h0 h1 h2 h3)
                generalize ms.getD (k + 1) m0 = m at *
                obtain ⟨p', ⟨fa', fc', fp'⟩, ⟨ba', bc', bp'⟩⟩ := m
                simp only at q0 q1 q2 q3 q4 q5 q6 hpar hfl HST HSn
                obtain ⟨pn, rfl⟩ : ∃ pn : Nat, p' = pn := ⟨p'.toNat, by omega⟩
                have hpk : pn ≤ k := by omega
                rw [Int.toNat_natCast] at HST HSn
                replace HSn := Lib.hid (HSn.out (by omega) hpar.2)
                have hpt := outTo_tv HT.out HY.out.1 pn hpk
                have HSame := Lib.hid (show ∀ o, HGood ms an s o → out.getD pn [] = o.getD pn [] from fun o ho => outTo_good HT.out ho (HY.out.2 o ho) pn hpk (by omega))
                obtain ⟨b2, o2, he2, hb2, hc2⟩ := RdL.cells stC_len (RdL.of_own (f := stC) (bs := out) (by rw [hol]; exact HO.out)) (k := pn) (by rw [hol]; omega)
                subst he2
                have r0 := hc2 0 _ rfl
                simp only [Nat.mul_one, Nat.add_zero] at r0
                rw [← getD_at out [] pn] at r0
                replace HST := Lib.hid (show ∀ o, HGood ms an s o → okF (out.getD pn []) ⟨fa', fc', fp'⟩ = true ∧ rvF (out.getD pn []) ⟨fa', fc', fp'⟩ = ⟨ba', bc', bp'⟩ from fun o ho => by rw [HSame.out o ho]; exact HST.out o ho)
                clear hc2 HSame hol
                generalize out.getD pn [] = x at *
                have hxl := tv_len hpt
                have RV := Lib.hid (fun w => implReverse_any x ⟨fa', fc', fp'⟩ w hpt hfl)
                have AP := Lib.hid (fun w => applyF_any x ⟨fa', fc', fp'⟩ w hpt hfl)
                unfold RvPost chAgg at RV
                unfold AplPost chAgg at AP
                simp only at RV AP
                have HTv := Lib.hid (show okF x ⟨fa', fc', fp'⟩ = true → tv (apF x ⟨fa', fc', fp'⟩) = true from fun h => (okF_tv h).2)
                have j1 : (0 : Int) ≤ (pn : Int) := by omega
                have j2 : (pn : Int) < ((k + 1 : Nat) : Int) := by omega
                clear hpt hpar
                rcases hok : okF x ⟨fa', fc', fp'⟩ with _ | _
                · rw [hok] at RV
                  simp only [Bool.false_eq_true, if_false, c0] at RV
                  have HN := Lib.hid (show ¬ ∃ o, HGood ms an s o from fun ⟨o, ho⟩ => by have := (HST.out o ho).1; rw [hok] at this; cases this)
                  have hW4 := HW3.out
                  have hB4 := HB.out
                  clear hok HST HSn HTv AP HT HO
                  go_wp2_with fail
                  refine (RV.out _).mono ?_
                  rintro e w5 ⟨rfl, hb5⟩
                  have hF : Below w.heap.size w w5 := hW4.trans ((hB4.mono (by omega)).trans ((up_trans (up_alloc (Below.refl _ _) _) hb5).mono (by omega)))
                  clear hb5 RV
                  go_wp2_with fail
                  go_ret2
                  exact ⟨_, false, rfl, by (repeat (first | exact Below.refl _ _ | assumption | refine Below.drew ?_ | refine up_drewN ?_ _ | refine up_alloc ?_ _ | refine up_set ?_ _ _ (by first | exact Nat.le_refl _ | (simp; done) | (simp; omega) | omega) | refine up_trans ?_ (by assumption))), .inr ⟨rfl, HN.out⟩⟩
                · rw [hok] at RV AP
                  simp only [if_true] at RV
                  have HSt2 := Lib.hid (fun h => HSn.out hok h)
                  have HG2 := Lib.hid (show ∀ o, HGood ms an s o → rvF x ⟨fa', fc', fp'⟩ = ⟨ba', bc', bp'⟩ from fun o ho => (HST.out o ho).2)
                  have hT2 := HTv.out hok
                  have htl := tv_len hT2
                  clear hok HST HSn HTv hT2
                  generalize rvF x ⟨fa', fc', fp'⟩ = rv at *
                  generalize apF x ⟨fa', fc', fp'⟩ = t at *
                  obtain ⟨ra, rc, rp⟩ := rv
                  simp only at RV
                  go_wp2_with fail
                  refine (RV.out _).mono ?_
                  rintro e w5 ⟨rfl, hb5⟩
                  have mc : ∀ o, w5.cell? ⟨wr.heap.size, o, none⟩ = #[.int .i64 pn, .int .i64 fa', .int .i64 fc', S fp', .int .i64 ba', .int .i64 bc', S bp'][o]? := (fun o => (hb5.cell (p := ⟨wr.heap.size, o, none⟩) (by simp <;> omega)).trans (by simp [go_sem])); have mf : ∀ o, w5.frozen? ⟨wr.heap.size, o, none⟩ = false := (fun o => (hb5.frozen (p := ⟨wr.heap.size, o, none⟩) (by simp <;> omega)).trans (by simp [go_sem])); have mz : wr.heap.size < w5.heap.size := (by have := hb5.size; (try simp at this); omega); have my := mz
                  have hbR := up_trans (up_alloc (Below.refl wr.heap.size wr) _) hb5
                  have t5 := (hbR.cell (p := ⟨w.heap.size, 0, none⟩) (show w.heap.size < wr.heap.size by omega)).trans t0
                  have ne1 : ¬ w5.heap.size = wr.heap.size := by omega
                  have ne2 : ¬ wr.heap.size = w5.heap.size := by omega
                  have HO5 := Lib.hid (own_up HO.out hbR)
                  have HB5 := Lib.hid (HB.out.trans (hbR.mono hXr))
                  clear hb5 hbR RV q0 q1 q2 q3 q4 q5 q6 r0 t0 t1 HO my
                  go_upto_region 26 with (fail)
                  · have HEq := Lib.hid (HSt2.out (by simp only [*]))
                    clear HSt2 HG2
                    go_wp2_with fail
                    refine (AP.out _).mono ?_
                    rintro e w6 ⟨t', rfl, ht', hb6⟩
                    obtain rfl := ht' trivial
                    have hbR := up_trans (up_alloc (Below.refl w5.heap.size w5) _) hb6
                    have HO6 := Lib.hid (own_up HO5.out hbR)
                    have hX5 : w.heap.size + 1 ≤ w5.heap.size := by omega
                    have hX6 : w.heap.size + 1 ≤ w6.heap.size := Nat.le_trans hX5 hbR.size
                    have HB6 := Lib.hid ((HB5.out.trans (hbR.mono hX5)).alloc hX6 (.cells #[S t'] 9))
                    clear hb6 hbR HO5 HB5 AP ht' t5 mc mf
                    go_wp2_with (at_builtin; refine wpList_append_own _ rfl _ _ 34 rfl (w.heap.size + 1) 9 i0 _ 1 16 Tryz.underlying34 hi hz0 hz1 hz2 rfl (by decide) _ _ _ rfl (HO6.out.alloc _) ⟨w6.heap.size, 0, none⟩ 1 1 [S t'] rfl rfl (cells_new _ _ _) (by intro u hu; simp at hu; subst hu; rfl) (by unfold maxLen; omega) (by omega) (by simp; omega) ?_; intro v7 w7 how7 hgr7 _)
                    have HB7 := Lib.hid (HB6.out.grown hgr7 (by simp; omega) (own_lt HO6.out (Nat.le_refl _)))
                    have HO7 := Lib.hid how7
                    clear how7 hgr7 HB6 HO6
                    go_wp2_with fail
                    go_roundw
                    case rel =>
                      repeat apply Exists.intro
                      exact ⟨⟨k + 1, out ++ [t'], _, by omega, by go_num, rfl, HEq, Lib.hid (by rw [List.flatMap_append]; exact HO7.out), HB7⟩, rfl⟩
                    case measure => simp [intOf]; omega
                  all_goals
                    have hF : Below w.heap.size w w5 := HW3.out.trans (HB5.out.mono (by omega))
                    clear HSt2 AP HT HO5 HB5
                    go_wp2_with fail
                    go_ret2
                    refine ⟨_, false, rfl, by (repeat (first | exact Below.refl _ _ | assumption | refine Below.drew ?_ | refine up_drewN ?_ _ | refine up_alloc ?_ _ | refine up_set ?_ _ _ (by first | exact Nat.le_refl _ | (simp; done) | (simp; omega) | omega) | refine up_trans ?_ (by assumption))), .inr ⟨rfl, fun ⟨o, ho⟩ => ?_⟩⟩
                    have e := HG2.out o ho
                    simp only [Ch.mk.injEq] at e
                    obtain ⟨e1, e2, e3⟩ := e
                    first | omega | contradiction
              · obtain rfl : k = ms.length - 1 := by omega
                have hk1 : ms.length - 1 + 1 = ms.length := by omega
                have HY3 := Lib.hid (show ∀ o, HGood ms an s o → out.getD an [] = o.getD an [] from fun o ho => outTo_good HT.out ho (HY.out.2 o ho) an (by omega) han)
                have HGD := Lib.hid (show out.getD an [] = s → HGood ms an s out from fun hs2 => ⟨HTV.out, hn1, hn30, by omega, by omega, hM0.out, by rw [HT.out.1]; omega, by rw [HT.out.2.1]; exact HY.out.1, fun j h1 h2 => HT.out.2.2 j h1 (by omega), by rw [Int.toNat_natCast]; exact hs2⟩)
                have HOut := Lib.hid (show Own wr w.heap.size 9 1 (.slice OA (ms.length - 1 + 1) oc) out.length (out.flatMap stC) by rw [hol]; exact own_base HO.out (by omega))
                have hF : Below w.heap.size w wr := HW3.out.trans (HB.out.mono (by omega))
                obtain ⟨b2, o2, he2, hb2, hc2⟩ := RdL.cells stC_len (RdL.of_own (f := stC) (bs := out) (by rw [hol]; exact HO.out)) (k := an) (by rw [hol]; omega)
                subst he2
                have r0 := hc2 0 _ rfl
                simp only [Nat.mul_one, Nat.add_zero] at r0
                rw [← getD_at out [] an] at r0
                have j1 : (0 : Int) ≤ (an : Int) := by omega
                have j2 : (an : Int) < ((ms.length - 1 + 1 : Nat) : Int) := by omega
                clear hc2 hol HO HB HT HY HH HW3 HP hA3
                generalize out.getD an [] = x at *
                by_cases hx : x = s
                · subst hx
                  have HG1 := Lib.hid (HGD.out rfl)
                  clear HGD HY3
                  go_wp2_with fail
                  go_quiet (fail)
                  go_wp2_with fail
                  go_ret2
                  exact ⟨_, true, rfl, by (repeat (first | exact Below.refl _ _ | assumption | refine Below.drew ?_ | refine up_drewN ?_ _ | refine up_alloc ?_ _ | refine up_set ?_ _ _ (by first | exact Nat.le_refl _ | (simp; done) | (simp; omega) | omega) | refine up_trans ?_ (by assumption))), .inl ⟨rfl, out, HG1.out, own_up HOut.out (by (repeat (first | exact Below.refl _ _ | assumption | refine Below.drew ?_ | refine up_drewN ?_ _ | refine up_alloc ?_ _ | refine up_set ?_ _ _ (by first | exact Nat.le_refl _ | (simp; done) | (simp; omega) | omega) | refine up_trans ?_ (by assumption))))⟩⟩
                · have HN := Lib.hid (show ¬ ∃ o, HGood ms an s o from fun ⟨o, ho⟩ => by
                    have h1 := HY3.out o ho
                    have h2 := ho.at_
                    rw [Int.toNat_natCast] at h2
                    exact hx (h1.trans h2))
                  have hx2 : (x == s) = false := by simpa using hx
                  clear HGD HY3 hx
                  go_wp2_with fail
                  go_quiet (fail)
                  go_wp2_with fail
                  go_ret2
                  exact ⟨_, false, rfl, by (repeat (first | exact Below.refl _ _ | assumption | refine Below.drew ?_ | refine up_drewN ?_ _ | refine up_alloc ?_ _ | refine up_set ?_ _ _ (by first | exact Nat.le_refl _ | (simp; done) | (simp; omega) | omega) | refine up_trans ?_ (by assumption))), .inr ⟨rfl, HN.out⟩⟩
  all_goals
    go_wp2_with fail
    go_ret2
    refine ⟨_, false, rfl, by (repeat (first | exact Below.refl _ _ | assumption | refine Below.drew ?_ | refine up_drewN ?_ _ | refine up_alloc ?_ _ | refine up_set ?_ _ _ (by first | exact Nat.le_refl _ | (simp; done) | (simp; omega) | omega) | refine up_trans ?_ (by assumption))), .inr ⟨rfl, fun ⟨o, ho⟩ => ?_⟩⟩
    obtain ⟨e1, e2, e3, e4, e5, e6, e7⟩ := HNE.out o ho
    first | omega | contradiction

end Go.Proofs.YtdngdlcibaiekaaGreatDoor
