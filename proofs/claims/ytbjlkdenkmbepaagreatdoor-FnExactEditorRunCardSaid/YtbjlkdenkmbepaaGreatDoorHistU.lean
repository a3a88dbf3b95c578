/- What is proved here: What is proved here: the contract of texts in the program. What is proved here: words for the two rows of the reference's texts of a history: texts, and which of them are known. What is proved here: the contract of l9Texts in the reference. No condition. -/
import Derived.Test.YtbjlkdenkmbepaaGreatDoorHistM
import Derived.Deep.Cut
import Derived.Deep.CutRange
namespace Go.Proofs.YtbjlkdenkmbepaaGreatDoor
open Go.RowKit

def stC (l : List UInt8) : List Value := [S l]
theorem stC_len (l : List UInt8) : (stC l).length = 1 := rfl
def TextsPost (ms : List Mo) (a : Int) (s : List UInt8) (w : World) (e : Ending) (w' : World) : Prop :=
  ∃ v ok, e = .returned (.tuple #[v, .bool ok]) ∧ Below w.heap.size w w' ∧ ((ok = true ∧ ∃ o, HGood ms a s o ∧ Own w' w.heap.size 9 1 v o.length (o.flatMap stC)) ∨ (ok = false ∧ ¬ ∃ o, HGood ms a s o))

def ParTo (ms : List Mo) (k : Nat) : Prop := ∀ j, 0 < j → j ≤ k → 0 ≤ (ms.getD j m0).par ∧ (ms.getD j m0).par < j
theorem str_info : (Tryz.prog.info? 9).map (fun i => (i.zero, i.size, i.bytes)) = some (some (S []), 1, 16) := by kernel_rfl
def OutTo (ms : List Mo) (y : List UInt8) (out : List (List UInt8)) (k : Nat) : Prop := out.length = k + 1 ∧ out.getD 0 [] = y ∧ ∀ j, 0 < j → j < k + 1 → Step ms out j
theorem getD_app {α : Type} (l : List α) (x d : α) (k : Nat) (hk : k < l.length) : (l ++ [x]).getD k d = l.getD k d := by
  rw [List.getD_eq_getElem?_getD, List.getD_eq_getElem?_getD, List.getElem?_append_left hk]
theorem getD_last {α : Type} (l : List α) (x d : α) : (l ++ [x]).getD l.length d = x := by
  rw [List.getD_eq_getElem?_getD, List.getElem?_append_right (Nat.le_refl _), Nat.sub_self]; rfl
theorem step_app {ms : List Mo} {out : List (List UInt8)} {x : List UInt8} {j : Nat} (h : Step ms out j) (hj : j < out.length) : Step ms (out ++ [x]) j := by
  obtain ⟨h1, h2, h3, h4, h5⟩ := h
  unfold Step
  rw [getD_app _ _ _ _ (by omega), getD_app _ _ _ _ hj]
  exact ⟨h1, h2, h3, h4, h5⟩
theorem outTo_snoc {ms : List Mo} {y : List UInt8} {out : List (List UInt8)} {k : Nat} {m : Mo} (h : OutTo ms y out k) (hm : ms.getD (k + 1) m0 = m) (h0 : 0 ≤ m.par) (h1 : m.par < ((k + 1 : Nat) : Int)) (hf : okF (out.getD m.par.toNat []) m.f = true) (hr : rvF (out.getD m.par.toNat []) m.f = m.b) :
    OutTo ms y (out ++ [apF (out.getD m.par.toNat []) m.f]) (k + 1) := by
  obtain ⟨a1, a2, a3⟩ := h
  refine ⟨by rw [List.length_append, a1]; rfl, by rw [getD_app _ _ _ _ (by omega)]; exact a2, fun j hj hk => ?_⟩
  by_cases e : j = k + 1
  · subst e
    unfold Step
    rw [hm, getD_app _ _ _ _ (by omega), show k + 1 = out.length from a1.symm, getD_last]
    exact ⟨h0, by rw [a1]; exact h1, hf, hr, rfl⟩
  · exact step_app (a3 j hj (by omega)) (by omega)
theorem outTo_tv {ms : List Mo} {y : List UInt8} {out : List (List UInt8)} {k : Nat} (h : OutTo ms y out k) (hy : tv y = true) (j : Nat) (hj : j ≤ k) : tv (out.getD j []) = true := by
  by_cases h0 : j = 0
  · subst h0; rw [h.2.1]; exact hy
  · obtain ⟨_, _, h3, _, h5⟩ := h.2.2 j (by omega) (by omega)
    rw [h5]; exact (okF_tv h3).2
theorem outTo_good {ms : List Mo} {a : Int} {s y : List UInt8} {out o : List (List UInt8)} {k : Nat} (h : OutTo ms y out k) (hg : HGood ms a s o) (h0 : o.getD 0 [] = y) (j : Nat) (hj : j ≤ k) (hjm : j < ms.length) : out.getD j [] = o.getD j [] :=
  good_same hg (h0.trans h.2.1.symm) h.2.2 j (by omega) hjm
theorem getD_at {α : Type} (l : List α) (d : α) (k : Nat) (hk : k < l.length) : l.getD k d = l[k] := by
  rw [List.getD_eq_getElem?_getD, List.getElem?_eq_getElem hk]; rfl

set_option maxRecDepth 100000 in
set_option maxHeartbeats 1000000 in
theorem implTexts_any (v : Value) (ms : List Mo) (a : Int) (s : List UInt8) (w : World) (h : RdM w v ms) (hn : ms.length ≤ 1048576) (hs : s.length ≤ maxLen) :
    Calls Tryz.prog 86 #[.agg #[v, .int .i64 a], S s] w (TextsPost ms a s w) := by
  have hW := Below.refl w.heap.size w
  obtain ⟨A, c, rfl, _, _⟩ := h.1.form
  have H := Lib.hid h
  have T := Lib.hid (fun w => implTextValid_any s w hs)
  have I1 := Lib.hid (fun w => in_any (ms.length : Int) 1 30 w)
  have I2 := Lib.hid (fun w => in_any a 0 ((ms.length : Int) - 1) w)
  rcases ht : tv s with _ | _
  · have HN := Lib.hid (show ¬ ∃ o, HGood ms a s o from fun ⟨o, ho⟩ => by have := ho.t; rw [ht] at this; cases this)
    rw [ht] at T
    clear ht I1 I2 h H
    go_enter Tryz.func86, Tryz.ntmps86
    go_wp2_with fail
    refine (T.out _).mono ?_
    rintro e w1 ⟨rfl, rfl⟩
    go_wp2_with fail
    go_ret2
    exact ⟨_, false, rfl, by exact bBel, .inr ⟨rfl, HN.out⟩⟩
  rcases h1 : inB (ms.length : Int) 1 30 with _ | _
  · have HN := Lib.hid (show ¬ ∃ o, HGood ms a s o from fun ⟨o, ho⟩ => by
      have i1 := ho.n1
      have i2 := ho.n30
      rw [inB_iff.2 (by omega)] at h1; cases h1)
    rw [ht] at T
    rw [h1] at I1
    clear ht h1 I2 h H
    go_enter Tryz.func86, Tryz.ntmps86
    go_wp2_with fail
    refine (T.out _).mono ?_
    rintro e w1 ⟨rfl, rfl⟩
    go_wp2_with fail
    refine (I1.out _).mono ?_
    rintro e w1 ⟨rfl, rfl⟩
    go_wp2_with fail
    go_ret2
    exact ⟨_, false, rfl, by exact bBel, .inr ⟨rfl, HN.out⟩⟩
  rcases h2 : inB a 0 ((ms.length : Int) - 1) with _ | _
  · have HN := Lib.hid (show ¬ ∃ o, HGood ms a s o from fun ⟨o, ho⟩ => by
      have i1 := ho.a0
      have i2 := ho.a1
      rw [inB_iff.2 (by omega)] at h2; cases h2)
    rw [ht] at T
    rw [h1] at I1
    rw [h2] at I2
    clear ht h1 h2 h H
    go_enter Tryz.func86, Tryz.ntmps86
    go_wp2_with fail
    refine (T.out _).mono ?_
    rintro e w1 ⟨rfl, rfl⟩
    go_wp2_with fail
    refine (I1.out _).mono ?_
    rintro e w1 ⟨rfl, rfl⟩
    go_wp2_with fail
    refine (I2.out _).mono ?_
    rintro e w1 ⟨rfl, rfl⟩
    go_wp2_with fail
    go_ret2
    exact ⟨_, false, rfl, by exact bBel, .inr ⟨rfl, HN.out⟩⟩
  have h1' := inB_iff.1 h1
  have h2' := inB_iff.1 h2
  have HTV := Lib.hid ht
  rw [ht] at T
  rw [h1] at I1
  rw [h2] at I2
  clear ht h1 h2 h
  generalize hm : ms.getD 0 m0 = m at *
  have HM := Lib.hid hm
  clear hm
  obtain ⟨p, ⟨fa, fc, fp⟩, ⟨ba, bc, bp⟩⟩ := m
  go_enter Tryz.func86, Tryz.ntmps86
  go_wp2_with fail
  refine (T.out _).mono ?_
  rintro e w1 ⟨rfl, rfl⟩
  go_wp2_with fail
  refine (I1.out _).mono ?_
  rintro e w1 ⟨rfl, rfl⟩
  go_wp2_with fail
  refine (I2.out _).mono ?_
  rintro e w1 ⟨rfl, rfl⟩
  have hH := RdM.up H.out (show Below w.heap.size w (w.alloc (.cells #[.slice A ms.length c, .int .i64 a] 25)) by exact bBel)
  obtain ⟨b, o, rfl, hb, q0, q1, q2, q3, q4, q5, q6⟩ := hH.cells (k := 0) (by omega) HM.out
  simp only [Nat.zero_mul, Nat.add_zero] at q0 q1 q2 q3 q4 q5 q6
  have HNE : Hid (∀ o, HGood ms a s o → p = -1 ∧ fa = 0 ∧ fc = 0 ∧ fp = [] ∧ ba = 0 ∧ bc = 0 ∧ bp = []) := Lib.hid (fun o ho => by
    have e := ho.m.symm.trans HM.out
    simp only [m0, c0, Mo.mk.injEq, Ch.mk.injEq] at e
    exact ⟨e.1.symm, e.2.1.1.symm, e.2.1.2.1.symm, e.2.1.2.2.symm, e.2.2.1.symm, e.2.2.2.1.symm, e.2.2.2.2.symm⟩)
  clear T I1 I2 hH
  go_upto_region 4 with (fail)
  · clear HNE
    go_cut [50, 51, 52] from 48 to 52 (fun v50 v51 v52 wx => ∃ A2 c2, v50 = .slice A2 (ms.length - 1) c2 ∧ v51 = .int .i64 ((ms.length - 1 : Nat) : Int) ∧ v52 = .int .i64 0 ∧ (1 < ms.length → A2 = some ⟨b, o + 7, none⟩) ∧ wx = w.alloc (.cells #[.slice (some ⟨b, o, none⟩) ms.length c, .int .i64 a] 25))
    case first =>
      have k1 : (1 : Int) ≤ (ms.length : Int) := by omega
      have k2 : (1 : Int) ≤ (c : Int) := by omega
      have k3 : (ms.length : Int) ≤ (c : Int) := by omega
      by_cases hc1 : c = 1
      · go_wp2_with fail
        go_meet
        exact ⟨_, _, rfl, rfl, rfl, fun h => absurd h (by omega), by rw [hc1]⟩
      · have k4 : ¬ (c : Int) = 1 := by omega
        go_wp2_with fail
        go_meet
        exact ⟨_, _, rfl, rfl, rfl, fun _ => rfl, rfl⟩
    case rest =>
    obtain ⟨A2, c2, rfl, rfl, rfl, hA2, hwc⟩ := hcut
    have xc : ∀ q, wc.cell? ⟨w.heap.size, q, none⟩ = #[.slice (some ⟨b, o, none⟩) ms.length c, .int .i64 a][q]? := by subst hwc; exact fun q => by simp [go_sem]
    have xz : w.heap.size < wc.heap.size := by subst hwc; simp
    have HH := Lib.hid (H.out.up (show Below w.heap.size w wc by subst hwc; exact bBel))
    have HW1 := Lib.hid (show Below w.heap.size w wc by subst hwc; exact bBel)
    have hM0 : Hid (ms.getD 0 m0 = m0) := Lib.hid (by rw [HM.out]; simp only [*]; rfl)
    obtain ⟨an, rfl⟩ : ∃ an : Nat, a = an := ⟨a.toNat, by omega⟩
    have han : an < ms.length := by omega
    have hn30 : ms.length ≤ 30 := by omega
    have hn1 : 1 ≤ ms.length := by omega
    have hbw : b < w.heap.size + 1 := by simpa using hb
    clear q0 q1 q2 q3 q4 q5 q6 H HM hb h1' h2' hW hwc
    obtain ⟨w1, rfl⟩ : ∃ z, z = wc := ⟨_, rfl⟩
    have xc0 := xc 0
    have xc1 := xc 1
    simp only [List.getElem?_toArray, List.getElem?_cons_zero, List.getElem?_cons_succ] at xc0 xc1
    clear xc
    have hml1 : ((ms.length - 1 : Nat) : Int) ≤ 30 := by omega
    go_wp2_with fail
    go_loopw [52] (fun i wr => ∃ k : Nat, k ≤ ms.length - 1 ∧ i = .int .i64 k ∧ Hid (ParTo ms k) ∧ Hid (Below w1.heap.size w1 wr)) (fun i _ => ms.length - (intOf i).toNat)
    case atStart => exact ⟨0, Nat.zero_le _, by first | rfl | go_num, Lib.hid (fun j h1 h2 => absurd h2 (by omega)), Lib.hid (Below.refl _ _)⟩
    case round =>
      obtain ⟨k, hk, rfl, HP, HB⟩ := hrel
      have xz' : w.heap.size < wr.heap.size := Nat.lt_of_lt_of_le xz HB.out.size
      have y0 := (HB.out.cell (p := ⟨w.heap.size, 0, none⟩) xz).trans xc0
      have y1 := (HB.out.cell (p := ⟨w.heap.size, 1, none⟩) xz).trans xc1
      clear xc0 xc1
      by_cases hlt : k < ms.length - 1
      · have i1 : (0 : Int) ≤ (k : Int) := by omega
        have i2 : (k : Int) < ((ms.length - 1 : Nat) : Int) := by omega
        obtain rfl := hA2 (by omega)
        obtain ⟨b', o', he, hb, q0, q1, q2, q3, q4, q5, q6⟩ := (HH.out.up HB.out).cells (k := k + 1) (by omega) rfl
        injection he with he
        injection he with e1 e2 e3
        subst e1 e2
        have ea : o + (k + 1) * 7 = o + 7 + k * 7 := by omega
        rw [ea] at q0 q1 q2 q3 q4 q5 q6
        clear ea e3
        have HPar := Lib.hid (show ∀ o, HGood ms an s o → 0 ≤ (ms.getD (k + 1) m0).par ∧ (ms.getD (k + 1) m0).par ≤ k from fun o ho => by
          obtain ⟨h1, h2, _⟩ := ho.step (k + 1) (by omega) (by omega); exact ⟨h1, by omega⟩)
        have HPS := Lib.hid (show 0 ≤ (ms.getD (k + 1) m0).par ∧ (ms.getD (k + 1) m0).par ≤ k → ParTo ms (k + 1) from fun h j h1 h2 => by
          by_cases e : j = k + 1
          · subst e; exact ⟨h.1, by omega⟩
          · exact HP.out j h1 (by omega))
        generalize ms.getD (k + 1) m0 = m at *
        obtain ⟨p', ⟨fa', fc', fp'⟩, ⟨ba', bc', bp'⟩⟩ := m
        simp only at q0 q1 q2 q3 q4 q5 q6 HPar HPS
        go_wp2_with fail
        refine (in_any p' 0 k _).mono ?_
        rcases hi : inB p' 0 k with _ | _
        · rintro e w2 ⟨rfl, rfl⟩
          have HN := Lib.hid (show ¬ ∃ o, HGood ms an s o from fun ⟨o, ho⟩ => by
            have := HPar.out o ho
            rw [inB_iff.2 this] at hi
            cases hi)
          have hB2 := HB.out
          have hW2 := HW1.out
          clear hi HPar HPS
          go_wp2_with fail
          go_ret2
          exact ⟨_, false, rfl, by exact bBel, .inr ⟨rfl, HN.out⟩⟩
        · rintro e w2 ⟨rfl, rfl⟩
          have HP2 := Lib.hid (HPS.out (inB_iff.1 hi))
          have hB2 := HB.out
          clear hi HPar HPS
          go_wp2_with fail
          go_roundw
          case rel => exact ⟨k + 1, by omega, by go_num, HP2, Lib.hid (by exact bBel)⟩
          case measure => simp [intOf]; omega
      · obtain rfl : k = ms.length - 1 := by omega
        clear hA2
        obtain ⟨w2, rfl⟩ : ∃ z, z = wr := ⟨_, rfl⟩
        have HW2 := Lib.hid (up_trans HW1.out HB.out)
        replace HH := RdM.hup HH HB.out
        clear HB HW1
        have hTV : tv s = true := HTV.out
        have HS0 : Hid (tv s = true ∧ ∀ o, HGood ms an s o → o.getD an [] = s) := Lib.hid ⟨hTV, fun o ho => by have := ho.at_; rwa [Int.toNat_natCast] at this⟩
        clear hTV
        go_wp2_with fail
        go_loopw [9, 10] (fun x i wr => ∃ (q : Nat) (y : List UInt8), q < ms.length ∧ i = .int .i64 q ∧ x = S y ∧ Hid (tv y = true ∧ ∀ o, HGood ms an s o → o.getD q [] = y) ∧ Hid (Below w2.heap.size w2 wr)) (fun _ i _ => (intOf i).toNat)
        case atStart => exact ⟨an, s, han, rfl, rfl, HS0, Lib.hid (Below.refl _ _)⟩
        case round =>
          obtain ⟨q, y, hq, rfl, rfl, HY, HB⟩ := hrel
          clear HS0
          have z0 := (HB.out.cell (p := ⟨w.heap.size, 0, none⟩) xz').trans y0
          have z1 := (HB.out.cell (p := ⟨w.heap.size, 1, none⟩) xz').trans y1
          have xz2 : w.heap.size < wr.heap.size := Nat.lt_of_lt_of_le xz' HB.out.size
          by_cases hq0 : 0 < q
          · have i1 : (0 : Int) < (q : Int) := by omega
            have i2 : (q : Int) < (ms.length : Int) := by omega
            have HHr := RdM.hup HH HB.out
            obtain ⟨b', o', he, hb, q0, q1, q2, q3, q4, q5, q6⟩ := HHr.out.cells (k := q) hq rfl
            injection he with he
            injection he with e1 e2 e3
            subst e1 e2
            clear e3
            have hpar := HP.out q hq0 (by omega)
            have hpl := (HH.out.len q).2
            have HBk := Lib.hid (show ∀ o, HGood ms an s o → okF y (ms.getD q m0).b = true ∧ o.getD (ms.getD q m0).par.toNat [] = apF y (ms.getD q m0).b from fun o ho => by
              have := ho.back hq0 hq
              rw [HY.out.2 o ho] at this
              exact this.2.2)
            generalize ms.getD q m0 = m at *
            obtain ⟨p', f', ⟨ba', bc', bp'⟩⟩ := m
            simp only at q0 q1 q2 q3 q4 q5 q6 hpar hpl HBk
            obtain ⟨pn, rfl⟩ : ∃ pn : Nat, p' = pn := ⟨p'.toNat, by omega⟩
            rw [Int.toNat_natCast] at HBk
            have AP := Lib.hid (fun w => applyF_any y ⟨ba', bc', bp'⟩ w HY.out.1 hpl)
            unfold AplPost chAgg at AP
            simp only at AP
            have HTv := Lib.hid (show okF y ⟨ba', bc', bp'⟩ = true → tv (apF y ⟨ba', bc', bp'⟩) = true from fun h => (okF_tv h).2)
            go_wp2_with fail
            refine (AP.out _).mono ?_
            rintro e w3 ⟨t, rfl, ht, hb3⟩
            have c0 := (hb3.cell (p := ⟨b, o + q * 7, none⟩) hb).trans q0
            have d0 := (hb3.cell (p := ⟨w.heap.size, 0, none⟩) xz2).trans z0
            have hB3 := up_trans HB.out hb3
            clear q0 q1 q2 q3 q4 q5 q6 z0 z1 AP
            generalize okF y ⟨ba', bc', bp'⟩ = ok at *
            rcases ok with _ | _
            · have HN := Lib.hid (show ¬ ∃ o, HGood ms an s o from fun ⟨o, ho⟩ => by have := (HBk.out o ho).1; cases this)
              have hW2 := HW2.out
              clear HBk HTv ht
              go_wp2_with fail
              go_ret2
              exact ⟨_, false, rfl, by exact bBel, .inr ⟨rfl, HN.out⟩⟩
            · obtain rfl := ht rfl
              have HY2 : Hid (tv (apF y ⟨ba', bc', bp'⟩) = true ∧ ∀ o, HGood ms an s o → o.getD pn [] = apF y ⟨ba', bc', bp'⟩) := Lib.hid ⟨HTv.out rfl, fun o ho => (HBk.out o ho).2⟩
              clear HBk HTv ht HY
              generalize apF y ⟨ba', bc', bp'⟩ = t at *
              go_wp2_with fail
              go_roundw
              case rel => exact ⟨pn, t, by omega, rfl, rfl, HY2, Lib.hid hB3⟩
              case measure => simp [intOf]; omega
          · obtain rfl : q = 0 := by omega
            obtain ⟨w3, rfl⟩ : ∃ z, z = wr := ⟨_, rfl⟩
            replace HH := RdM.hup HH HB.out
            have HW3 := Lib.hid (up_trans HW2.out HB.out)
            have hyl := tv_len HY.out.1
            clear HB HW2 y0 y1
            have hX : w.heap.size + 1 ≤ w3.heap.size := by omega
            go_upto_region 19 with (fail)
            generalize hw4 : w3.alloc _ = w4
            have hb4 : Below w3.heap.size w3 w4 := by rw [← hw4]; exact bBel
            have HO : Hid (Own w4 (w.heap.size + 1) 9 1 (.slice (some ⟨w3.heap.size, 0, none⟩) 1 1) (0 + 1) ([y].flatMap stC)) := Lib.hid (by
              rw [← hw4]
              exact World.ownsRow_lit (base := w.heap.size + 1) (e := 9) (size := 1) w3 #[S y] 1 hX (by decide) rfl)
            have u0 := (hb4.cell (p := ⟨w.heap.size, 0, none⟩) xz2).trans z0
            have u1 := (hb4.cell (p := ⟨w.heap.size, 1, none⟩) xz2).trans z1
            have hX4 : w.heap.size + 1 ≤ w4.heap.size := Nat.le_trans hX hb4.size
            replace HH := RdM.hup HH hb4
            replace HW3 := Lib.hid (up_trans HW3.out hb4)
            clear hw4 hb4 z0 z1 hX
            go_cut [92, 93, 94] from 90 to 94 (fun v50 v51 v52 wx => ∃ A2 c2, v50 = .slice A2 (ms.length - 1) c2 ∧ v51 = .int .i64 ((ms.length - 1 : Nat) : Int) ∧ v52 = .int .i64 0 ∧ (1 < ms.length → A2 = some ⟨b, o + 7, none⟩) ∧ wx = w4)
            case first =>
              have k1 : (1 : Int) ≤ (ms.length : Int) := by omega
              have k3 : (ms.length : Int) ≤ (c : Int) := by obtain ⟨A', c', he, _, hc'⟩ := HH.out.1.form; injection he with _ _ he; subst he; omega
              have k2 : (1 : Int) ≤ (c : Int) := by omega
              by_cases hc1 : c = 1
              · go_wp2_with fail
                go_meet
                exact ⟨_, _, rfl, rfl, rfl, fun h => absurd h (by omega), rfl⟩
              · have k4 : ¬ (c : Int) = 1 := by omega
                go_wp2_with fail
                go_meet
                exact ⟨_, _, rfl, rfl, rfl, fun _ => rfl, rfl⟩
            case rest =>
            obtain ⟨A3, c3, rfl, rfl, rfl, hA3, hwc⟩ := hcut
            subst hwc
            obtain ⟨w4, rfl⟩ : ∃ z, z = wc := ⟨_, rfl⟩
            obtain ⟨i0, hi, hz0, hz1, hz2⟩ := info_parts str_info
            have HY0 : Hid (OutTo ms y [y] 0) := Lib.hid ⟨rfl, rfl, fun j h1 h2 => absurd h2 (by omega)⟩
            go_wp2_with fail
            go_loopw [13, 94] (fun v i wr => ∃ (k : Nat) (out : List (List UInt8)) (v0 : Value), k ≤ ms.length - 1 ∧ i = .int .i64 k ∧ v0 = v ∧ Hid (OutTo ms y out k) ∧ Hid (Own wr (w.heap.size + 1) 9 1 v (k + 1) (out.flatMap stC)) ∧ Hid (Below (w.heap.size + 1) w4 wr)) (fun _ i _ => ms.length - (intOf i).toNat)
            case atStart => exact ⟨0, [y], _, Nat.zero_le _, by first | rfl | go_num, rfl, HY0, HO, Lib.hid (Below.refl _ _)⟩
            case round =>
              obtain ⟨k, out, v0, hk, rfl, rfl, HT, HO, HB⟩ := hrel
              clear HY0
              have hXr : w.heap.size + 1 ≤ wr.heap.size := Nat.le_trans hX4 HB.out.size
              have t0 := (HB.out.cell (p := ⟨w.heap.size, 0, none⟩) (show w.heap.size < w.heap.size + 1 by omega)).trans u0
              have t1 := (HB.out.cell (p := ⟨w.heap.size, 1, none⟩) (show w.heap.size < w.heap.size + 1 by omega)).trans u1
              clear u0 u1
              have hol := HT.out.1
              have hform := (RdL.of_own (f := stC) (bs := out) (by rw [hol]; exact HO.out)).form
              rw [hol] at hform
              obtain ⟨OA, oc, rfl, _, _⟩ := hform
              by_cases hlt : k < ms.length - 1
              · have i1 : (0 : Int) ≤ (k : Int) := by omega
                have i2 : (k : Int) < ((ms.length - 1 : Nat) : Int) := by omega
                obtain rfl := hA3 (by omega)
                obtain ⟨b', o', he, _, q0, q1, q2, q3, q4, q5, q6⟩ := HH.out.cells (k := k + 1) (by omega) rfl
                injection he with he
                injection he with e1 e2 e3
                subst e1 e2
                have ea : o + (k + 1) * 7 = o + 7 + k * 7 := by omega
                rw [ea] at q0 q1 q2 q3 q4 q5 q6
                clear ea e3
                replace q0 := (HB.out.cell (p := ⟨b, _, none⟩) hbw).trans q0
                replace q1 := (HB.out.cell (p := ⟨b, _, none⟩) hbw).trans q1
                replace q2 := (HB.out.cell (p := ⟨b, _, none⟩) hbw).trans q2
                replace q3 := (HB.out.cell (p := ⟨b, _, none⟩) hbw).trans q3
                replace q4 := (HB.out.cell (p := ⟨b, _, none⟩) hbw).trans q4
                replace q5 := (HB.out.cell (p := ⟨b, _, none⟩) hbw).trans q5
                replace q6 := (HB.out.cell (p := ⟨b, _, none⟩) hbw).trans q6
                have hpar := HP.out (k + 1) (by omega) (by omega)
                have hfl := (HH.out.len (k + 1)).1
                have HST := Lib.hid (show ∀ o, HGood ms an s o → okF (o.getD (ms.getD (k + 1) m0).par.toNat []) (ms.getD (k + 1) m0).f = true ∧ rvF (o.getD (ms.getD (k + 1) m0).par.toNat []) (ms.getD (k + 1) m0).f = (ms.getD (k + 1) m0).b from fun o ho => by
                  obtain ⟨_, _, h3, h4, _⟩ := ho.step (k + 1) (by omega) (by omega)
                  exact ⟨h3, h4⟩)
                have HSn := Lib.hid (fun h0 h1 h2 h3 => outTo_snoc (m := ms.getD (k + 1) m0) HT.out rfl h0 h1 h2 h3)
                generalize ms.getD (k + 1) m0 = m at *
                obtain ⟨p', ⟨fa', fc', fp'⟩, ⟨ba', bc', bp'⟩⟩ := m
                simp only at q0 q1 q2 q3 q4 q5 q6 hpar hfl HST HSn
                obtain ⟨pn, rfl⟩ : ∃ pn : Nat, p' = pn := ⟨p'.toNat, by omega⟩
                have hpk : pn ≤ k := by omega
                rw [Int.toNat_natCast] at HST HSn
                replace HSn := Lib.hid (HSn.out (by omega) hpar.2)
                have hpt := outTo_tv HT.out HY.out.1 pn hpk
                have HSame := Lib.hid (show ∀ o, HGood ms an s o → out.getD pn [] = o.getD pn [] from fun o ho => outTo_good HT.out ho (HY.out.2 o ho) pn hpk (by omega))
                obtain ⟨b2, o2, he2, hb2, hc2⟩ := RdL.cells stC_len (RdL.of_own (f := stC) (bs := out) (by rw [hol]; exact HO.out)) (k := pn) (by rw [hol]; omega)
                subst he2
                have r0 := hc2 0 _ rfl
                simp only [Nat.mul_one, Nat.add_zero] at r0
                rw [← getD_at out [] pn] at r0
                replace HST := Lib.hid (show ∀ o, HGood ms an s o → okF (out.getD pn []) ⟨fa', fc', fp'⟩ = true ∧ rvF (out.getD pn []) ⟨fa', fc', fp'⟩ = ⟨ba', bc', bp'⟩ from fun o ho => by rw [HSame.out o ho]; exact HST.out o ho)
                clear hc2 HSame hol
                generalize out.getD pn [] = x at *
                have hxl := tv_len hpt
                have RV := Lib.hid (fun w => implReverse_any x ⟨fa', fc', fp'⟩ w hpt hfl)
                have AP := Lib.hid (fun w => applyF_any x ⟨fa', fc', fp'⟩ w hpt hfl)
                unfold RvPost chAgg at RV
                unfold AplPost chAgg at AP
                simp only at RV AP
                have HTv := Lib.hid (show okF x ⟨fa', fc', fp'⟩ = true → tv (apF x ⟨fa', fc', fp'⟩) = true from fun h => (okF_tv h).2)
                have j1 : (0 : Int) ≤ (pn : Int) := by omega
                have j2 : (pn : Int) < ((k + 1 : Nat) : Int) := by omega
                clear hpt hpar
                rcases hok : okF x ⟨fa', fc', fp'⟩ with _ | _
                · rw [hok] at RV
                  simp only [Bool.false_eq_true, if_false, c0] at RV
                  have HN := Lib.hid (show ¬ ∃ o, HGood ms an s o from fun ⟨o, ho⟩ => by have := (HST.out o ho).1; rw [hok] at this; cases this)
                  have hW4 := HW3.out
                  have hB4 := HB.out
                  clear hok HST HSn HTv AP HT HO
                  go_wp2_with fail
                  refine (RV.out _).mono ?_
                  rintro e w5 ⟨rfl, hb5⟩
                  have hF : Below w.heap.size w w5 := hW4.trans ((hB4.mono (by omega)).trans ((up_trans (up_alloc (Below.refl _ _) _) hb5).mono (by omega)))
                  clear hb5 RV
                  go_wp2_with fail
                  go_ret2
                  exact ⟨_, false, rfl, by exact bBel, .inr ⟨rfl, HN.out⟩⟩
                · rw [hok] at RV AP
                  simp only [if_true] at RV
                  have HSt2 := Lib.hid (fun h => HSn.out hok h)
                  have HG2 := Lib.hid (show ∀ o, HGood ms an s o → rvF x ⟨fa', fc', fp'⟩ = ⟨ba', bc', bp'⟩ from fun o ho => (HST.out o ho).2)
                  have hT2 := HTv.out hok
                  have htl := tv_len hT2
                  clear hok HST HSn HTv hT2
                  generalize rvF x ⟨fa', fc', fp'⟩ = rv at *
                  generalize apF x ⟨fa', fc', fp'⟩ = t at *
                  obtain ⟨ra, rc, rp⟩ := rv
                  simp only at RV
                  go_wp2_with fail
                  refine (RV.out _).mono ?_
                  rintro e w5 ⟨rfl, hb5⟩
                  have mc : ∀ o, w5.cell? ⟨wr.heap.size, o, none⟩ = #[.int .i64 pn, .int .i64 fa', .int .i64 fc', S fp', .int .i64 ba', .int .i64 bc', S bp'][o]? := (fun o => (hb5.cell (p := ⟨wr.heap.size, o, none⟩) (by simp <;> omega)).trans (by simp [go_sem])); have mf : ∀ o, w5.frozen? ⟨wr.heap.size, o, none⟩ = false := (fun o => (hb5.frozen (p := ⟨wr.heap.size, o, none⟩) (by simp <;> omega)).trans (by simp [go_sem])); have mz : wr.heap.size < w5.heap.size := (by have := hb5.size; (try simp at this); omega); have my := mz
                  have hbR := up_trans (up_alloc (Below.refl wr.heap.size wr) _) hb5
                  have t5 := (hbR.cell (p := ⟨w.heap.size, 0, none⟩) (show w.heap.size < wr.heap.size by omega)).trans t0
                  have ne1 : ¬ w5.heap.size = wr.heap.size := by omega
                  have ne2 : ¬ wr.heap.size = w5.heap.size := by omega
                  have HO5 := Lib.hid (own_up HO.out hbR)
                  have HB5 := Lib.hid (HB.out.trans (hbR.mono hXr))
                  clear hb5 hbR RV q0 q1 q2 q3 q4 q5 q6 r0 t0 t1 HO my
                  go_upto_region 26 with (fail)
                  · have HEq := Lib.hid (HSt2.out (by simp only [*]))
                    clear HSt2 HG2
                    go_wp2_with fail
                    refine (AP.out _).mono ?_
                    rintro e w6 ⟨t', rfl, ht', hb6⟩
                    obtain rfl := ht' trivial
                    have hbR := up_trans (up_alloc (Below.refl w5.heap.size w5) _) hb6
                    have HO6 := Lib.hid (own_up HO5.out hbR)
                    have hX5 : w.heap.size + 1 ≤ w5.heap.size := by omega
                    have hX6 : w.heap.size + 1 ≤ w6.heap.size := Nat.le_trans hX5 hbR.size
                    have HB6 := Lib.hid ((HB5.out.trans (hbR.mono hX5)).alloc hX6 (.cells #[S t'] 9))
                    clear hb6 hbR HO5 HB5 AP ht' t5 mc mf
                    go_wp2_with (at_builtin; refine wpList_append_own _ rfl _ _ 28 rfl (w.heap.size + 1) 9 i0 _ 1 16 Tryz.underlying28 hi hz0 hz1 hz2 rfl (by decide) _ _ _ rfl (HO6.out.alloc _) ⟨w6.heap.size, 0, none⟩ 1 1 [S t'] rfl rfl (cells_new _ _ _) (by intro u hu; simp at hu; subst hu; rfl) (by unfold maxLen; omega) (by omega) (by simp; omega) ?_; intro v7 w7 how7 hgr7 _)
                    have HB7 := Lib.hid (HB6.out.grown hgr7 (by simp; omega) (own_lt HO6.out (Nat.le_refl _)))
                    have HO7 := Lib.hid how7
                    clear how7 hgr7 HB6 HO6
                    go_wp2_with fail
                    go_roundw
                    case rel =>
                      repeat apply Exists.intro
                      exact ⟨⟨k + 1, out ++ [t'], _, by omega, by go_num, rfl, HEq, Lib.hid (by rw [List.flatMap_append]; exact HO7.out), HB7⟩, rfl⟩
                    case measure => simp [intOf]; omega
                  all_goals
                    have hF : Below w.heap.size w w5 := HW3.out.trans (HB5.out.mono (by omega))
                    clear HSt2 AP HT HO5 HB5
                    go_wp2_with fail
                    go_ret2
                    refine ⟨_, false, rfl, by exact bBel, .inr ⟨rfl, fun ⟨o, ho⟩ => ?_⟩⟩
                    have e := HG2.out o ho
                    simp only [Ch.mk.injEq] at e
                    obtain ⟨e1, e2, e3⟩ := e
                    first | omega | contradiction
              · obtain rfl : k = ms.length - 1 := by omega
                have hk1 : ms.length - 1 + 1 = ms.length := by omega
                have HY3 := Lib.hid (show ∀ o, HGood ms an s o → out.getD an [] = o.getD an [] from fun o ho => outTo_good HT.out ho (HY.out.2 o ho) an (by omega) han)
                have HGD := Lib.hid (show out.getD an [] = s → HGood ms an s out from fun hs2 => ⟨HTV.out, hn1, hn30, by omega, by omega, hM0.out, by rw [HT.out.1]; omega, by rw [HT.out.2.1]; exact HY.out.1, fun j h1 h2 => HT.out.2.2 j h1 (by omega), by rw [Int.toNat_natCast]; exact hs2⟩)
                have HOut := Lib.hid (show Own wr w.heap.size 9 1 (.slice OA (ms.length - 1 + 1) oc) out.length (out.flatMap stC) by rw [hol]; exact own_base HO.out (by omega))
                have hF : Below w.heap.size w wr := HW3.out.trans (HB.out.mono (by omega))
                obtain ⟨b2, o2, he2, hb2, hc2⟩ := RdL.cells stC_len (RdL.of_own (f := stC) (bs := out) (by rw [hol]; exact HO.out)) (k := an) (by rw [hol]; omega)
                subst he2
                have r0 := hc2 0 _ rfl
                simp only [Nat.mul_one, Nat.add_zero] at r0
                rw [← getD_at out [] an] at r0
                have j1 : (0 : Int) ≤ (an : Int) := by omega
                have j2 : (an : Int) < ((ms.length - 1 + 1 : Nat) : Int) := by omega
                clear hc2 hol HO HB HT HY HH HW3 HP hA3
                generalize out.getD an [] = x at *
                by_cases hx : x = s
                · subst hx
                  have HG1 := Lib.hid (HGD.out rfl)
                  clear HGD HY3
                  go_wp2_with fail
                  go_quiet (fail)
                  go_wp2_with fail
                  go_ret2
                  exact ⟨_, true, rfl, by exact bBel, .inl ⟨rfl, out, HG1.out, own_up HOut.out (by exact bBel)⟩⟩
                · have HN := Lib.hid (show ¬ ∃ o, HGood ms an s o from fun ⟨o, ho⟩ => by
                    have h1 := HY3.out o ho
                    have h2 := ho.at_
                    rw [Int.toNat_natCast] at h2
                    exact hx (h1.trans h2))
                  have hx2 : (x == s) = false := by simpa using hx
                  clear HGD HY3 hx
                  go_wp2_with fail
                  go_quiet (fail)
                  go_wp2_with fail
                  go_ret2
                  exact ⟨_, false, rfl, by exact bBel, .inr ⟨rfl, HN.out⟩⟩
  all_goals
    go_wp2_with fail
    go_ret2
    refine ⟨_, false, rfl, by exact bBel, .inr ⟨rfl, fun ⟨o, ho⟩ => ?_⟩⟩
    obtain ⟨e1, e2, e3, e4, e5, e6, e7⟩ := HNE.out o ho
    first | omega | contradiction

end Go.Proofs.YtbjlkdenkmbepaaGreatDoor

namespace Go.Proofs.YtbjlkdenkmbepaaGreatDoor
open Go.RowKit
set_option linter.unusedVariables false

theorem bool_info : (Tryz.prog.info? 4).map (fun i => (i.zero, i.size, i.bytes)) = some (some (.bool false), 1, 1) := by kernel_rfl
theorem stC_map (T : List (List UInt8)) : T.flatMap stC = T.map (fun l => S l) := by
  induction T with
  | nil => rfl
  | cons a T ih => rw [List.flatMap_cons, ih]; rfl
/-- the two rows. -/
structure RowsU (X g1 g2 n : Nat) (T : List (List UInt8)) (K : List Bool) (w : World) : Prop where
  t : Own w (X + 1) 9 1 (.slice (some ⟨g1, 0, none⟩) n n) n (T.map fun l => S l)
  k : Own w (X + 1) 4 1 (.slice (some ⟨g2, 0, none⟩) n n) n (K.map Value.bool)
  ne : g1 ≠ g2
section
variable {X g1 g2 n : Nat} {T : List (List UInt8)} {K : List Bool} {w w' : World}
theorem RowsU.up (h : RowsU X g1 g2 n T K w) (hb : Below w.heap.size w w') : RowsU X g1 g2 n T K w' := ⟨own_up h.t hb, own_up h.k hb, h.ne⟩
theorem RowsU.lt (h : RowsU X g1 g2 n T K w) : X + 1 ≤ g1 ∧ g1 < w.heap.size ∧ X + 1 ≤ g2 ∧ g2 < w.heap.size := ⟨(h.t.lt g1 rfl).1, (h.t.lt g1 rfl).2, (h.k.lt g2 rfl).1, (h.k.lt g2 rfl).2⟩
theorem RowsU.setT (h : RowsU X g1 g2 n T K w) (j : Nat) (x : List UInt8) : RowsU X g1 g2 n (T.set j x) K (w.setCell ⟨g1, j, none⟩ (S x)) := by
  have hs := h.t.stored j (S x)
  refine ⟨?_, h.k.kept hs.2 (.inr (by simpa [Value.ownBlock] using fun e => h.ne e.symm)), h.ne⟩
  have := hs.1
  rwa [← List.map_set] at this
theorem RowsU.setK (h : RowsU X g1 g2 n T K w) (j : Nat) (x : Bool) : RowsU X g1 g2 n T (K.set j x) (w.setCell ⟨g2, j, none⟩ (.bool x)) := by
  have hs := h.k.stored j (.bool x)
  refine ⟨h.t.kept hs.2 (.inr (by simpa [Value.ownBlock] using fun e => h.ne e)), ?_, h.ne⟩
  have := hs.1
  rwa [← List.map_set] at this
theorem RowsU.lenT (h : RowsU X g1 g2 n T K w) : T.length = n := by have := h.t.1; simpa using this
theorem RowsU.lenK (h : RowsU X g1 g2 n T K w) : K.length = n := by have := h.k.1; simpa using this
theorem RowsU.cT (h : RowsU X g1 g2 n T K w) {j : Nat} (hj : j < n) : w.cell? ⟨g1, j, none⟩ = some (S (T.getD j [])) := by
  rw [h.t.cellAt j (by omega), List.getElem?_map, List.getElem?_eq_getElem (by rw [h.lenT]; exact hj), getD_at _ _ _ (by rw [h.lenT]; exact hj)]; rfl
theorem RowsU.cK (h : RowsU X g1 g2 n T K w) {j : Nat} (hj : j < n) : w.cell? ⟨g2, j, none⟩ = some (.bool (K.getD j false)) := by
  rw [h.k.cellAt j (by omega), List.getElem?_map, List.getElem?_eq_getElem (by rw [h.lenK]; exact hj), getD_at _ _ _ (by rw [h.lenK]; exact hj)]; rfl
theorem RowsU.fT (h : RowsU X g1 g2 n T K w) (j : Nat) : w.frozen? ⟨g1, j, none⟩ = false := h.t.frozenAt j
theorem RowsU.fK (h : RowsU X g1 g2 n T K w) (j : Nat) : w.frozen? ⟨g2, j, none⟩ = false := h.k.frozenAt j
end
theorem getD_set {α : Type} (l : List α) (d x : α) (j k : Nat) (hj : j < l.length) : (l.set j x).getD k d = if j = k then x else l.getD k d := by
  rw [List.getD_eq_getElem?_getD, List.getElem?_set]
  split
  · rename_i h
    subst h
    simp
  · rw [← List.getD_eq_getElem?_getD]

/-- what is known is right. -/
def JInv (ms : List Mo) (an : Nat) (s : List UInt8) (T : List (List UInt8)) (K : List Bool) : Prop :=
  T.length = ms.length ∧ K.length = ms.length ∧ ∀ o, HGood ms an s o → ∀ j, K.getD j false = true → o.getD j [] = T.getD j []
theorem jInv_set {ms : List Mo} {an q : Nat} {s y : List UInt8} {T : List (List UInt8)} {K : List Bool} (h : JInv ms an s T K) (hq : q < ms.length) (hy : ∀ o, HGood ms an s o → o.getD q [] = y) : JInv ms an s (T.set q y) (K.set q true) := by
  obtain ⟨h1, h2, h3⟩ := h
  refine ⟨by simpa using h1, by simpa using h2, fun o ho j hj => ?_⟩
  rw [getD_set _ _ _ _ _ (by omega)] at hj ⊢
  by_cases e : q = j
  · subst e
    rw [if_pos rfl]; exact hy o ho
  · rw [if_neg e] at hj ⊢
    exact h3 o ho j hj
/-- the first walk: from state an back to state 0. -/
def WInv (ms : List Mo) (an q : Nat) (s y : List UInt8) (T : List (List UInt8)) (K : List Bool) : Prop :=
  JInv ms an s T K ∧ tv y = true ∧ (∀ o, HGood ms an s o → o.getD q [] = y) ∧ ((q = an ∧ y = s) ∨ (q < an ∧ K.getD an false = true ∧ T.getD an [] = s))
/-- behind the store. -/
theorem wInv_set {ms : List Mo} {an q : Nat} {s y : List UInt8} {T : List (List UInt8)} {K : List Bool} (h : WInv ms an q s y T K) (hq : q < ms.length) (ha : an < ms.length) :
    JInv ms an s (T.set q y) (K.set q true) ∧ (K.set q true).getD an false = true ∧ (T.set q y).getD an [] = s ∧ (K.set q true).getD q false = true ∧ (T.set q y).getD q [] = y := by
  obtain ⟨h1, h2, h3, h4⟩ := h
  have l1 := h1.1
  have l2 := h1.2.1
  refine ⟨jInv_set h1 hq h3, ?_, ?_, ?_, ?_⟩
  · rw [getD_set _ _ _ _ _ (by omega)]
    rcases h4 with ⟨rfl, _⟩ | ⟨_, h5, _⟩
    · simp
    · split
      · rfl
      · exact h5
  · rw [getD_set _ _ _ _ _ (by omega)]
    rcases h4 with ⟨rfl, rfl⟩ | ⟨h6, _, h5⟩
    · simp
    · rw [if_neg (by omega)]; exact h5
  · rw [getD_set _ _ _ _ _ (by omega), if_pos rfl]
  · rw [getD_set _ _ _ _ _ (by omega), if_pos rfl]
/-- the second walk: from state 1 on. -/
def SInv (ms : List Mo) (an k : Nat) (s : List UInt8) (T : List (List UInt8)) (K : List Bool) : Prop :=
  JInv ms an s T K ∧ K.getD an false = true ∧ T.getD an [] = s ∧ tv (T.getD 0 []) = true ∧ (∀ j, j < k → K.getD j false = true) ∧ ∀ j, 0 < j → j < k → Step ms T j
theorem sInv_tv {ms : List Mo} {an k : Nat} {s : List UInt8} {T : List (List UInt8)} {K : List Bool} (h : SInv ms an k s T K) (j : Nat) (hj : j < k) : tv (T.getD j []) = true := by
  by_cases h0 : j = 0
  · subst h0; exact h.2.2.2.1
  · obtain ⟨_, _, h3, _, h5⟩ := h.2.2.2.2.2 j (by omega) hj
    rw [h5]; exact (okF_tv h3).2
theorem sInv_step {ms : List Mo} {an k : Nat} {s : List UInt8} {T : List (List UInt8)} {K : List Bool} (h : SInv ms an k s T K) (hk : k < ms.length) (h0k : 0 < k)
    (h0 : 0 ≤ (ms.getD k m0).par) (h1 : (ms.getD k m0).par < k) (hf : okF (T.getD (ms.getD k m0).par.toNat []) (ms.getD k m0).f = true) (hr : rvF (T.getD (ms.getD k m0).par.toNat []) (ms.getD k m0).f = (ms.getD k m0).b)
    (hkn : K.getD k false = true → apF (T.getD (ms.getD k m0).par.toNat []) (ms.getD k m0).f = T.getD k []) :
    SInv ms an (k + 1) s (T.set k (apF (T.getD (ms.getD k m0).par.toNat []) (ms.getD k m0).f)) (K.set k true) := by
  obtain ⟨a1, a2, a3, a4, a5, a6⟩ := h
  have l1 := a1.1
  have l2 := a1.2.1
  have hy : ∀ o, HGood ms an s o → o.getD k [] = apF (T.getD (ms.getD k m0).par.toNat []) (ms.getD k m0).f := fun o ho => by
    obtain ⟨_, _, _, _, p5⟩ := ho.step k h0k hk
    rw [p5, a1.2.2 o ho _ (a5 _ (by omega))]
  refine ⟨jInv_set a1 hk hy, ?_, ?_, ?_, fun j hj => ?_, fun j hj0 hj => ?_⟩
  · rw [getD_set _ _ _ _ _ (by omega)]; split
    · rfl
    · exact a2
  · rw [getD_set _ _ _ _ _ (by omega)]
    split
    · rename_i e
      subst e
      rw [hkn a2]; exact a3
    · exact a3
  · rw [getD_set _ _ _ _ _ (by omega), if_neg (by omega)]; exact a4
  · rw [getD_set _ _ _ _ _ (by omega)]
    split
    · rfl
    · exact a5 j (by omega)
  · unfold Step
    by_cases e : j = k
    · subst e
      rw [getD_set _ _ _ _ _ (by omega), if_neg (by omega), getD_set _ _ _ _ _ (by omega), if_pos rfl]
      exact ⟨h0, h1, hf, hr, rfl⟩
    · obtain ⟨p1, p2, p3, p4, p5⟩ := a6 j hj0 (by omega)
      rw [getD_set _ _ _ _ _ (by omega), if_neg (by omega), getD_set _ _ _ _ _ (by omega), if_neg (by omega)]
      exact ⟨p1, p2, p3, p4, p5⟩
theorem sInv_end {ms : List Mo} {an : Nat} {s : List UInt8} {T : List (List UInt8)} {K : List Bool} (h : SInv ms an ms.length s T K) (ht : tv s = true) (hn1 : 1 ≤ ms.length) (hn30 : ms.length ≤ 30) (ha : an < ms.length) (hm : ms.getD 0 m0 = m0) : HGood ms an s T :=
  ⟨ht, hn1, hn30, by omega, by omega, hm, h.1.1, h.2.2.2.1, h.2.2.2.2.2, by rw [Int.toNat_natCast]; exact h.2.2.1⟩

end Go.Proofs.YtbjlkdenkmbepaaGreatDoor

namespace Go.Proofs.YtbjlkdenkmbepaaGreatDoor
open Go.RowKit
set_option linter.unusedVariables false

theorem specApplyF_any (s : List UInt8) (x : Ch) (w : World) (hs : s.length ≤ maxLen) (hp : x.p.length ≤ 1048576) :
    Calls Tryz.prog 105 #[S s, chAgg x] w fun e w' => e = .returned (.tuple #[S (apTo s x.a x.c x.p), .bool (okF s x)]) ∧ Below w.heap.size w w' := specApplyChange_any s x.a x.c x.p w hs hp
set_option maxRecDepth 100000 in
set_option maxHeartbeats 1000000 in
theorem l9Texts_any (v : Value) (ms : List Mo) (a : Int) (s : List UInt8) (w : World) (h : RdM w v ms) (ht : tv s = true) (hn1 : 1 ≤ ms.length) (hn30 : ms.length ≤ 30) (hm0 : ms.getD 0 m0 = m0) :
    Calls Tryz.prog 127 #[.agg #[v, .int .i64 a], S s] w (TextsPost ms a s w) := by
  have hW := Below.refl w.heap.size w
  obtain ⟨A, c, rfl, _, _⟩ := h.1.form
  have H := Lib.hid h
  have hsl := tv_len ht
  have HTV := Lib.hid ht
  have HM0 := Lib.hid hm0
  obtain ⟨i0, hi, hz0, hz1, hz2⟩ := info_parts str_info
  obtain ⟨i1, hj, hy0, hy1, hy2⟩ := info_parts bool_info
  have I2 := Lib.hid (fun w => l1In_any a 0 ((ms.length : Int) - 1) w)
  clear h ht hm0
  go_enter Tryz.func127, Tryz.ntmps127
  go_upto_region 2 with (at_make; refine wpList_make_full _ rfl _ _ 28 rfl (w.heap.size + 1) 9 i0 _ 1 Tryz.underlying28 hi hz0 hz1 _ _ _ _ ms.length rfl rfl rfl rfl (by rw [hz2]; omega) (by unfold maxLen; omega) (by simp) ?_; intro w1 how hgr)
  have hb := up_grown (Below.refl _ _) hgr (fun k hk => by cases hk)
  have xc : ∀ o, w1.cell? ⟨w.heap.size, o, none⟩ = #[.slice A ms.length c, .int .i64 a][o]? := (fun o => (hb.cell (p := ⟨w.heap.size, o, none⟩) (by simp <;> omega)).trans (by simp [go_sem])); have xf : ∀ o, w1.frozen? ⟨w.heap.size, o, none⟩ = false := (fun o => (hb.frozen (p := ⟨w.heap.size, o, none⟩) (by simp <;> omega)).trans (by simp [go_sem])); have xz : w.heap.size < w1.heap.size := (by have := hb.size; (try simp at this); omega); have xy := xz
  have hW1 : Below w.heap.size w w1 := by exact bBel
  have HT1 := Lib.hid how
  clear hb hgr how xy xf
  go_upto_region 3 with (at_make; refine wpList_make_full _ rfl _ _ 157 rfl (w.heap.size + 1) 4 i1 _ 1 Tryz.underlying157 hj hy0 hy1 _ _ _ _ ms.length rfl rfl rfl rfl (by rw [hy2]; omega) (by unfold maxLen; omega) (by omega) ?_; intro w2 how hgr)
  have hb := up_grown (Below.refl _ _) hgr (fun k hk => by cases hk)
  have hw1 : w.heap.size + 1 < w1.heap.size := by have := (HT1.out.lt _ rfl).2; simpa using this
  obtain ⟨g1, hg1⟩ : ∃ g1, g1 = w.heap.size + 1 := ⟨_, rfl⟩
  obtain ⟨g2, hg2⟩ : ∃ g2, g2 = w1.heap.size := ⟨_, rfl⟩
  have R0 : Hid (RowsU w.heap.size g1 g2 ms.length (List.replicate ms.length []) (List.replicate ms.length false) w2) := by
    have h1 := own_up HT1.out hb
    have h2 := how
    rw [Nat.mul_one, show (S []).cells = #[S []] from rfl, toList_madeCells_one] at h1
    rw [Nat.mul_one, show (Value.bool false).cells = #[Value.bool false] from rfl, toList_madeCells_one] at h2
    refine Lib.hid ⟨?_, ?_, by omega⟩
    · rw [List.map_replicate, hg1]; simpa using h1
    · rw [List.map_replicate, hg2]; exact h2
  rw [← hg1, ← hg2]
  have hX1 : w.heap.size + 1 ≤ g1 := by omega
  have hX2 : w.heap.size + 1 ≤ g2 := by omega
  replace xc := up_c hb xz xc
  replace xz := Nat.lt_of_lt_of_le xz hb.size
  have HW := Lib.hid (up_trans hW1 hb)
  have xc0 := xc 0
  have xc1 := xc 1
  simp only [List.getElem?_toArray, List.getElem?_cons_zero, List.getElem?_cons_succ] at xc0 xc1
  clear hb hgr how HT1 hW1 hg1 hg2 hw1 hi hz0 hz1 hz2 hj hy0 hy1 hy2 xc i0 i1
  rcases h2 : inB a 0 ((ms.length : Int) - 1) with _ | _
  · have HN := Lib.hid (show ¬ ∃ o, HGood ms a s o from fun ⟨o, ho⟩ => by
      have i1 := ho.a0
      have i2 := ho.a1
      rw [inB_iff.2 (by omega)] at h2; cases h2)
    rw [h2] at I2
    have hW2 := HW.out
    clear h2 R0 hW
    go_wp2_with fail
    refine (I2.out _).mono ?_
    rintro e w3 ⟨rfl, rfl⟩
    go_wp2_with fail
    go_ret2
    exact ⟨_, false, rfl, hW2, .inr ⟨rfl, HN.out⟩⟩
  have h2' := inB_iff.1 h2
  rw [h2] at I2
  obtain ⟨an, rfl⟩ : ∃ an : Nat, a = an := ⟨a.toNat, by omega⟩
  have han : an < ms.length := by omega
  have HB0 := Lib.hid (Below.refl (w.heap.size + 1) w2)
  have HWI : Hid (WInv ms an an s s (List.replicate ms.length []) (List.replicate ms.length false)) := Lib.hid ⟨⟨by simp, by simp, fun o ho j hj => by
    rw [List.getD_eq_getElem?_getD, List.getElem?_replicate] at hj
    split at hj <;> simp at hj⟩, HTV.out, fun o ho => by have := ho.at_; rwa [Int.toNat_natCast] at this, .inl ⟨rfl, rfl⟩⟩
  have HH := Lib.hid (H.out.up HW.out)
  have hbW : Hid (∀ b o, A = some ⟨b, o, none⟩ → b < w.heap.size + 1) := Lib.hid (fun b o e => by
    obtain ⟨_, _, A', c', he, _, h3⟩ := H.out.1
    injection he with he
    obtain ⟨b2, o2, he2, hb2, _⟩ := h3 (by omega)
    rw [← he, e] at he2
    injection he2 with he2
    injection he2 with e1 e2 e3
    omega)
  have hX : w.heap.size < w.heap.size + 1 := Nat.lt_succ_self _
  have hXs : w.heap.size + 1 ≤ w2.heap.size := by omega
  clear h2 h2' hW H
  go_wp2_with fail
  refine (I2.out _).mono ?_
  rintro e w3 ⟨rfl, rfl⟩
  clear I2
  go_wp2_with fail
  go_loopw [8, 9] (fun i x wr => ∃ (q : Nat) (y : List UInt8) (T : List (List UInt8)) (K : List Bool), q < ms.length ∧ i = .int .i64 q ∧ x = S y ∧ Hid (WInv ms an q s y T K) ∧ Hid (RowsU w.heap.size g1 g2 ms.length T K wr) ∧ Hid (Below (w.heap.size + 1) w2 wr)) (fun i _ _ => (intOf i).toNat)
  case atStart => exact ⟨an, s, _, _, han, rfl, rfl, HWI, R0, HB0⟩
  case round =>
    obtain ⟨q, y, T, K, hq, rfl, rfl, HI, HR, HB⟩ := hrel
    clear R0 HB0 HWI
    have hyl := tv_len HI.out.2.1
    have i1 : (0 : Int) ≤ (q : Int) := by omega
    have i2 : (q : Int) < (ms.length : Int) := by omega
    have hlt := HR.out.lt
    have hwr := HB.out.size
    have z0 := (HB.out.cell (p := ⟨w.heap.size, 0, none⟩) hX).trans xc0
    have z1 := (HB.out.cell (p := ⟨w.heap.size, 1, none⟩) hX).trans xc1
    obtain ⟨b, o, rfl, hb, q0, q1, q2, q3, q4, q5, q6⟩ := HH.out.cells (k := q) hq rfl
    have hbw := hbW.out _ _ rfl
    replace q0 := (HB.out.cell (p := ⟨b, _, none⟩) hbw).trans q0
    replace q1 := (HB.out.cell (p := ⟨b, _, none⟩) hbw).trans q1
    replace q2 := (HB.out.cell (p := ⟨b, _, none⟩) hbw).trans q2
    replace q3 := (HB.out.cell (p := ⟨b, _, none⟩) hbw).trans q3
    replace q4 := (HB.out.cell (p := ⟨b, _, none⟩) hbw).trans q4
    replace q5 := (HB.out.cell (p := ⟨b, _, none⟩) hbw).trans q5
    replace q6 := (HB.out.cell (p := ⟨b, _, none⟩) hbw).trans q6
    have r0 := HR.out.cT hq
    have r1 := HR.out.cK hq
    have f0 := HR.out.fT q
    have f1 := HR.out.fK q
    have ne1 : ¬ g1 = g2 := HR.out.ne
    have ne2 : ¬ g2 = g1 := fun e => ne1 e.symm
    have ne3 : ¬ g1 = w.heap.size := by omega
    have ne4 : ¬ g2 = w.heap.size := by omega
    have ne5 : ¬ g1 = b := by omega
    have ne6 : ¬ g2 = b := by omega
    have hwi := wInv_set HI.out hq han
    have HR2 := Lib.hid ((HR.out.setT q y).setK q true)
    have HB2 := Lib.hid ((HB.out.setCell (p := ⟨g1, q, none⟩) hX1 (S y)).setCell (p := ⟨g2, q, none⟩) hX2 (.bool true))
    have hbl := (HH.out.len q).2
    have HGB := Lib.hid (show ∀ o, HGood ms an s o → 0 < q → 0 ≤ (ms.getD q m0).par ∧ (ms.getD q m0).par < q ∧ okF y (ms.getD q m0).b = true ∧ o.getD (ms.getD q m0).par.toNat [] = apF y (ms.getD q m0).b from fun o ho h0 => by
      have := ho.back h0 hq
      rw [HI.out.2.2.1 o ho] at this
      exact this)
    generalize hmm : ms.getD q m0 = m at q0 q1 q2 q3 q4 q5 q6 hbl HGB
    have HMM := Lib.hid hmm
    clear hmm
    obtain ⟨p', ⟨fa', fc', fp'⟩, ⟨ba', bc', bp'⟩⟩ := m
    simp only at q0 q1 q2 q3 q4 q5 q6 hbl HGB
    go_upto_region 10 with (fail)
    generalize hwq : World.alloc _ _ = wq
    have hbq : Below ((wr.setCell ⟨g1, q, none⟩ (S y)).setCell ⟨g2, q, none⟩ (.bool true)).heap.size ((wr.setCell ⟨g1, q, none⟩ (S y)).setCell ⟨g2, q, none⟩ (.bool true)) wq := by rw [← hwq]; exact up_alloc (Below.refl _ _) _
    have hsq : ((wr.setCell ⟨g1, q, none⟩ (S y)).setCell ⟨g2, q, none⟩ (.bool true)).heap.size = wr.heap.size := by simp [World.setCell]
    have HR3 := Lib.hid (HR2.out.up hbq)
    have HB3 := Lib.hid (HB2.out.trans (hbq.mono (by rw [hsq]; omega)))
    obtain ⟨mc, mz⟩ : (∀ j, wq.cell? ⟨wr.heap.size, j, none⟩ = #[.int .i64 p', .int .i64 fa', .int .i64 fc', S fp', .int .i64 ba', .int .i64 bc', S bp'][j]?) ∧ wr.heap.size < wq.heap.size := by
      subst hwq
      exact ⟨fun j => by simp [go_sem], by simp⟩
    have y0 := (HB3.out.cell (p := ⟨w.heap.size, 0, none⟩) hX).trans xc0
    have y1 := (HB3.out.cell (p := ⟨w.heap.size, 1, none⟩) hX).trans xc1
    clear hwq hbq hsq HR HB HR2 HB2 z0 z1 q0 q1 q2 q3 q4 q5 q6 r0 r1 f0 f1 xc0 xc1
    have hsz : w.heap.size + 1 ≤ wq.heap.size := by omega
    have hqa : q ≤ an := by rcases HI.out.2.2.2 with ⟨h, _⟩ | ⟨h, _⟩ <;> omega
    have hytv := Lib.hid HI.out.2.1
    clear HI
    generalize T.set q y = T2 at *
    generalize K.set q true = K2 at *
    clear T K
    by_cases hq0 : q = 0
    · subst hq0
      obtain ⟨j1, j2, j3, j4, j5⟩ := hwi
      have HS1 : Hid (SInv ms an 1 s T2 K2) := Lib.hid ⟨j1, j2, j3, by rw [j5]; exact hytv.out, (fun j hj => by
        have e : j = 0 := (by omega)
        rw [e]; exact j4), fun j h1 h2 => absurd h2 (by omega)⟩
      obtain ⟨w3, rfl⟩ : ∃ z, z = wq := ⟨_, rfl⟩
      have hsz3 : w.heap.size + 1 ≤ w3.heap.size := hsz
      clear j1 j2 j3 j4 j5 HGB HMM hbl mc mz hwr hlt hytv hyl hqa y1
      go_wp2_with fail
      go_loopw [13] (fun i wr => ∃ (k : Nat) (T : List (List UInt8)) (K : List Bool), 1 ≤ k ∧ k ≤ ms.length ∧ i = .int .i64 k ∧ Hid (SInv ms an k s T K) ∧ Hid (RowsU w.heap.size g1 g2 ms.length T K wr) ∧ Hid (Below (w.heap.size + 1) w3 wr)) (fun i _ => ms.length - (intOf i).toNat)
      case atStart => exact ⟨1, T2, K2, Nat.le_refl _, hn1, by first | rfl | go_num, HS1, HR3, Lib.hid (Below.refl _ _)⟩
      case round =>
        obtain ⟨k, T, K, hk1, hk, rfl, HI, HR, HB⟩ := hrel
        clear HS1 HR3
        have z0 := (HB.out.cell (p := ⟨w.heap.size, 0, none⟩) hX).trans y0
        have hXr : w.heap.size + 1 ≤ wr.heap.size := Nat.le_trans hsz3 HB.out.size
        have hF0 := Lib.hid (HW.out.trans ((HB3.out.trans HB.out).mono (show w.heap.size ≤ w.heap.size + 1 by omega)))
        by_cases hlt : k < ms.length
        · have i3 : (0 : Int) ≤ (k : Int) := by omega
          have i4 : (k : Int) < (ms.length : Int) := by omega
          have hrl := HR.out.lt
          obtain ⟨b', o', he, _, q0, q1, q2, q3, q4, q5, q6⟩ := HH.out.cells (k := k) hlt rfl
          injection he with he
          injection he with e1 e2 e3
          subst e1 e2
          clear e3
          replace q0 := ((HB3.out.trans HB.out).cell (p := ⟨b, _, none⟩) hbw).trans q0
          replace q1 := ((HB3.out.trans HB.out).cell (p := ⟨b, _, none⟩) hbw).trans q1
          replace q2 := ((HB3.out.trans HB.out).cell (p := ⟨b, _, none⟩) hbw).trans q2
          replace q3 := ((HB3.out.trans HB.out).cell (p := ⟨b, _, none⟩) hbw).trans q3
          replace q4 := ((HB3.out.trans HB.out).cell (p := ⟨b, _, none⟩) hbw).trans q4
          replace q5 := ((HB3.out.trans HB.out).cell (p := ⟨b, _, none⟩) hbw).trans q5
          replace q6 := ((HB3.out.trans HB.out).cell (p := ⟨b, _, none⟩) hbw).trans q6
          have hfl := (HH.out.len k).1
          have HST := Lib.hid (show ∀ o, HGood ms an s o → 0 ≤ (ms.getD k m0).par ∧ (ms.getD k m0).par < k ∧ okF (o.getD (ms.getD k m0).par.toNat []) (ms.getD k m0).f = true ∧ rvF (o.getD (ms.getD k m0).par.toNat []) (ms.getD k m0).f = (ms.getD k m0).b ∧ o.getD k [] = apF (o.getD (ms.getD k m0).par.toNat []) (ms.getD k m0).f from fun o ho => ho.step k (by omega) hlt)
          have HSn := Lib.hid (fun h0 h1 h2 h3 h4 => sInv_step HI.out hlt (by omega) h0 h1 h2 h3 h4)
          generalize ms.getD k m0 = m at q0 q1 q2 q3 q4 q5 q6 hfl HST HSn
          obtain ⟨p', ⟨fa', fc', fp'⟩, ⟨ba', bc', bp'⟩⟩ := m
          simp only at q0 q1 q2 q3 q4 q5 q6 hfl HST HSn
          have L2 := Lib.hid (fun w => l1In_any p' 0 ((k : Int) - 1) w)
          rcases hi : inB p' 0 ((k : Int) - 1) with _ | _
          · have HN := Lib.hid (show ¬ ∃ o, HGood ms an s o from fun ⟨o, ho⟩ => by
              have := HST.out o ho
              rw [inB_iff.2 ⟨this.1, by omega⟩] at hi; cases hi)
            rw [hi] at L2
            have hF := hF0.out
            clear hi HST HSn hF0
            go_wp2_with fail
            refine (L2.out _).mono ?_
            rintro e w4 ⟨rfl, rfl⟩
            go_wp2_with fail
            go_ret2
            exact ⟨_, false, rfl, by exact bBel, .inr ⟨rfl, HN.out⟩⟩
          · rw [hi] at L2
            have hi2 := inB_iff.1 hi
            obtain ⟨pn, rfl⟩ : ∃ pn : Nat, p' = pn := ⟨p'.toNat, by omega⟩
            have hpk : pn < k := by omega
            have hpn : pn < ms.length := by omega
            rw [Int.toNat_natCast] at HST HSn
            replace HSn := Lib.hid (HSn.out (by omega) (by omega))
            have hpt := sInv_tv HI.out pn hpk
            have r0 := HR.out.cT hpn
            have r1 := HR.out.cK hpn
            rw [HI.out.2.2.2.2.1 pn hpk] at r1
            have s0 := HR.out.cT hlt
            have s1 := HR.out.cK hlt
            have HSame := Lib.hid (show ∀ o, HGood ms an s o → o.getD pn [] = T.getD pn [] ∧ (K.getD k false = true → o.getD k [] = T.getD k []) from fun o ho => ⟨HI.out.1.2.2 o ho pn (HI.out.2.2.2.2.1 pn hpk), fun h => HI.out.1.2.2 o ho k h⟩)
            clear hi hi2
            generalize T.getD pn [] = x at *
            have hxl := tv_len hpt
            have HG3 := Lib.hid (show ∀ o, HGood ms an s o → okF x ⟨fa', fc', fp'⟩ = true ∧ rvF x ⟨fa', fc', fp'⟩ = ⟨ba', bc', bp'⟩ ∧ (K.getD k false = true → apF x ⟨fa', fc', fp'⟩ = T.getD k []) from fun o ho => by
              have h1 := HST.out o ho
              rw [(HSame.out o ho).1] at h1
              exact ⟨h1.2.2.1, h1.2.2.2.1, fun hk => by rw [← (HSame.out o ho).2 hk]; exact h1.2.2.2.2.symm⟩)
            have APC := Lib.hid (fun w => specApplyF_any x ⟨fa', fc', fp'⟩ w (by unfold maxLen; omega) hfl)
            have RVC := Lib.hid (fun w => specReverse_any x ⟨fa', fc', fp'⟩ w hpt hfl)
            unfold chAgg at APC
            unfold RvPost chAgg at RVC
            simp only at APC
            have hAe : okF x ⟨fa', fc', fp'⟩ = true → apTo x fa' fc' fp' = apF x ⟨fa', fc', fp'⟩ := fun h => apTo_ok (x := ⟨fa', fc', fp'⟩) h
            have hRe : okF x ⟨fa', fc', fp'⟩ = true → (if okF x ⟨fa', fc', fp'⟩ = true then rvF x ⟨fa', fc', fp'⟩ else c0) = rvF x ⟨fa', fc', fp'⟩ := fun h => if_pos h
            generalize (if okF x ⟨fa', fc', fp'⟩ = true then rvF x ⟨fa', fc', fp'⟩ else c0) = rv at RVC hRe
            generalize apTo x fa' fc' fp' = t at APC hAe
            obtain ⟨ra, rc, rp⟩ := rv
            simp only at RVC
            generalize okF x ⟨fa', fc', fp'⟩ = ok at APC RVC hAe hRe HG3 HSn
            have hAe2 := Lib.hid hAe
            have hRe2 := Lib.hid hRe
            have j1 : (0 : Int) ≤ (pn : Int) := by omega
            have j2 : (pn : Int) < (ms.length : Int) := by omega
            clear HST HSame hAe hRe hpt HI
            go_wp2_with fail
            refine (L2.out _).mono ?_
            rintro e w4 ⟨rfl, rfl⟩
            go_upto_region 22 with (fail)
            generalize hw5 : World.alloc _ _ = w5
            have hb : Below wr.heap.size wr w5 := by rw [← hw5]; exact up_alloc (Below.refl _ _) _
            obtain ⟨mc, mz⟩ : (∀ j, w5.cell? ⟨wr.heap.size, j, none⟩ = #[.int .i64 pn, .int .i64 fa', .int .i64 fc', S fp', .int .i64 ba', .int .i64 bc', S bp'][j]?) ∧ wr.heap.size < w5.heap.size := by
              subst hw5
              exact ⟨fun j => by simp [go_sem], by simp⟩
            replace r0 := (hb.cell (p := ⟨g1, pn, none⟩) hrl.2.1).trans r0
            replace s0 := (hb.cell (p := ⟨g1, k, none⟩) hrl.2.1).trans s0
            replace s1 := (hb.cell (p := ⟨g2, k, none⟩) hrl.2.2.2).trans s1
            have HR5 := Lib.hid (HR.out.up hb)
            have HB5 := Lib.hid (HB.out.trans (hb.mono hXr))
            have gz : g1 < w5.heap.size := by omega
            have gz2 : g2 < w5.heap.size := by omega
            have hX5 : w.heap.size + 1 ≤ w5.heap.size := by omega
            clear hw5 hb q0 q1 q2 q3 q4 q5 q6 HR HB r1 z0 hF0 L2
            have hne := UpW.nonempty w5
            have C1 := Lib.hid (fun y : UpW w5 => calls_up (x := y) (APC.out (y.at w5)))
            have m0' := mc 0
            have m1' := mc 1
            have m2' := mc 2
            have m3' := mc 3
            simp only [List.getElem?_toArray, List.getElem?_cons_zero, List.getElem?_cons_succ] at m0' m1' m2' m3'
            refine wp_region_up_lit (by kernel_rfl) (by kernel_rfl) ?_
            repeat (go_big_quiet_step ((go_at_call 105; exact C1.out _)))
            refine wpQuiet_nil ?_
            intro w6 hb
            replace hb := UpW.out hb
            replace mc := up_c hb mz mc
            replace mz := Nat.lt_of_lt_of_le mz hb.size
            replace r0 := (hb.cell (p := ⟨g1, pn, none⟩) gz).trans r0
            replace s0 := (hb.cell (p := ⟨g1, k, none⟩) gz).trans s0
            replace s1 := (hb.cell (p := ⟨g2, k, none⟩) gz2).trans s1
            have HR6 := Lib.hid (HR5.out.up hb)
            have HB6 := Lib.hid (HB5.out.trans (hb.mono hX5))
            replace gz := Nat.lt_of_lt_of_le gz hb.size
            replace gz2 := Nat.lt_of_lt_of_le gz2 hb.size
            have hX6 : w.heap.size + 1 ≤ w6.heap.size := Nat.le_trans hX5 hb.size
            clear hb hne C1 HR5 HB5 APC m0' m1' m2' m3'
            go_upto_region 23 with (fail)
            --EVER{spec.l9Texts;23;l9rev}
            refine wp_region_everL (R := RV w6.heap.size [] #[.int .i64 ra, .int .i64 rc, S rp]) (M := fun _ _ => True) 0 (fun _ => True) [(vEq _ _ _ (.slice (some ⟨g1, 0, none⟩) ms.length ms.length)).l, (vEq _ _ _ (.pointer (some ⟨wr.heap.size, 0, none⟩))).l, (vEq _ _ _ (.int .i64 pn)).l, (vEq _ _ _ (.pointer (some ⟨g1, pn, none⟩))).l, (vEq _ _ _ (S x)).l, (vEq _ _ _ (.pointer (some ⟨wr.heap.size, 1, none⟩))).l, (vEq _ _ _ (.agg #[.int .i64 fa', .int .i64 fc', S fp'])).l, (vEq _ _ _ (.tuple #[.agg #[.int .i64 ra, .int .i64 rc, S rp], .bool ok])).l, (vEq _ _ _ (.tuple #[.agg #[.int .i64 ra, .int .i64 rc, S rp], .bool ok])).l, (vEq _ _ _ (.agg #[.int .i64 ra, .int .i64 rc, S rp])).l, (vEq _ _ _ (.bool ok)).l, (vBox w6.heap.size [] #[.int .i64 ra, .int .i64 rc, S rp]).l, vPut w6.heap.size [] #[.int .i64 ra, .int .i64 rc, S rp] 17, (vEq _ _ _ (.bool ok)).l] (by kernel_rfl) (RV.refl _ _ _) (fun _ _ _ => RV.trans) (by kernel_rfl) (by kernel_rfl) (trivial) (trivial) ?_ ?_
            · refine ⟨?_, ?_, ?_, ?_, ?_, ?_, ?_, ?_, ?_, ?_, ?_, ?_, ?_, ?_, trivial⟩
              · intro k' w' ρ hk' hR hM hD hF
                replace hk' : k' < 14 := hk'
                obtain ⟨f0, -⟩ := hF
                replace f0 : ρ (.tmp 6) = .slice (some ⟨g1, 0, none⟩) ms.length ms.length := f0
                exact ⟨RV.refl _ _ _ _, ⟨trivial, fun _ h => h⟩, f0, trivial⟩
              · intro k' w' ρ hk' hR hM hD hF
                replace hk' : k' < 14 := hk'
                obtain ⟨f0, -⟩ := hF
                replace f0 : ρ (.tmp 14) = .pointer (some ⟨wr.heap.size, 0, none⟩) := f0
                refine goodL_of (fun _ => trivial) fun K hK => ?_
                go_simp
                exact hK _ _ (RV.refl _ _ _ _) (⟨trivial, fun _ h => h⟩) (rfl)
              · intro k' w' ρ hk' hR hM hD hF
                replace hk' : k' < 14 := hk'
                obtain ⟨f0, -⟩ := hF
                replace f0 : ρ (.tmp 114) = .pointer (some ⟨wr.heap.size, 0, none⟩) := f0
                refine goodL_of (fun _ => trivial) fun K hK => ?_
                have z0 := (hR.of_drew.cell mz mz (by simp) 0).trans (mc 0); go_simp; exact hK _ _ (RV.refl _ _ _ _) ⟨trivial, fun _ h => h⟩ rfl
              · intro k' w' ρ hk' hR hM hD hF
                replace hk' : k' < 14 := hk'
                obtain ⟨f0, f1, -⟩ := hF
                replace f0 : ρ (.tmp 113) = .slice (some ⟨g1, 0, none⟩) ms.length ms.length := f0
                replace f1 : ρ (.tmp 115) = .int .i64 pn := f1
                refine goodL_of (fun _ => trivial) fun K hK => ?_
                go_simp
                exact hK _ _ (RV.refl _ _ _ _) (⟨trivial, fun _ h => h⟩) (rfl)
              · intro k' w' ρ hk' hR hM hD hF
                replace hk' : k' < 14 := hk'
                obtain ⟨f0, -⟩ := hF
                replace f0 : ρ (.tmp 116) = .pointer (some ⟨g1, pn, none⟩) := f0
                refine goodL_of (fun _ => trivial) fun K hK => ?_
                have z0 := (hR.of_drew.cell gz gz (by simp) pn).trans r0; go_simp; exact hK _ _ (RV.refl _ _ _ _) ⟨trivial, fun _ h => h⟩ rfl
              · intro k' w' ρ hk' hR hM hD hF
                replace hk' : k' < 14 := hk'
                obtain ⟨f0, -⟩ := hF
                replace f0 : ρ (.tmp 14) = .pointer (some ⟨wr.heap.size, 0, none⟩) := f0
                refine goodL_of (fun _ => trivial) fun K hK => ?_
                go_simp
                exact hK _ _ (RV.refl _ _ _ _) (⟨trivial, fun _ h => h⟩) (rfl)
              · intro k' w' ρ hk' hR hM hD hF
                replace hk' : k' < 14 := hk'
                obtain ⟨f0, -⟩ := hF
                replace f0 : ρ (.tmp 118) = .pointer (some ⟨wr.heap.size, 1, none⟩) := f0
                refine goodL_of (fun _ => trivial) fun K hK => ?_
                have z1 := (hR.of_drew.cell mz mz (by simp) 1).trans (mc 1); have z2 := (hR.of_drew.cell mz mz (by simp) 2).trans (mc 2); have z3 := (hR.of_drew.cell mz mz (by simp) 3).trans (mc 3); go_simp; exact hK _ _ (RV.refl _ _ _ _) ⟨trivial, fun _ h => h⟩ rfl
              · intro k' w' ρ hk' hR hM hD hF
                replace hk' : k' < 14 := hk'
                obtain ⟨f0, f1, f2, -⟩ := hF
                replace f0 : ρ (.func _) = .func (.func _) #[] #[] := f0
                replace f1 : ρ (.tmp 117) = S x := f1
                replace f2 : ρ (.tmp 119) = .agg #[.int .i64 fa', .int .i64 fc', S fp'] := f2
                refine goodL_of (fun _ => trivial) fun K hK => ?_
                go_simp; refine (RVC.out _).mono ?_; rintro e wc ⟨rfl, hb⟩; exact ⟨_, rfl, hK _ _ (RV.of_below hb) (⟨trivial, fun _ _ => trivial⟩) rfl⟩
              · intro k' w' ρ hk' hR hM hD hF
                replace hk' : k' < 14 := hk'
                obtain ⟨f0, -⟩ := hF
                replace f0 : ρ (.tmp 120) = .tuple #[.agg #[.int .i64 ra, .int .i64 rc, S rp], .bool ok] := f0
                exact ⟨RV.refl _ _ _ _, ⟨trivial, fun _ h => h⟩, f0, trivial⟩
              · intro k' w' ρ hk' hR hM hD hF
                replace hk' : k' < 14 := hk'
                obtain ⟨f0, -⟩ := hF
                replace f0 : ρ (.tmp 112) = .tuple #[.agg #[.int .i64 ra, .int .i64 rc, S rp], .bool ok] := f0
                refine goodL_of (fun _ => trivial) fun K hK => ?_
                go_simp
                exact hK _ _ (RV.refl _ _ _ _) (⟨trivial, fun _ h => h⟩) (rfl)
              · intro k' w' ρ hk' hR hM hD hF
                replace hk' : k' < 14 := hk'
                obtain ⟨f0, -⟩ := hF
                replace f0 : ρ (.tmp 112) = .tuple #[.agg #[.int .i64 ra, .int .i64 rc, S rp], .bool ok] := f0
                refine goodL_of (fun _ => trivial) fun K hK => ?_
                go_simp
                exact hK _ _ (RV.refl _ _ _ _) (⟨trivial, fun _ h => h⟩) (rfl)
              · intro k' w' ρ hk' hR hM hD hF
                replace hk' : k' < 14 := hk'
                refine goodL_of (fun _ => trivial) fun K hK => ?_
                have hBz : _ ≤ w'.heap.size := hR.size
                go_simp
                exact hK _ _ (RV.alloc _ _) (⟨trivial, fun _ _ => trivial⟩) ⟨_, rfl, hBz, by simp, vbox_mk (by rfl)⟩
              · intro k' w' ρ hk' hR hM hD hF
                replace hk' : k' < 14 := hk'
                obtain ⟨f0, f1, -⟩ := hF
                replace f1 : ρ (.tmp 121) = .agg #[.int .i64 ra, .int .i64 rc, S rp] := f1
                refine goodL_ofs fun K hK => ?_
                obtain ⟨bi, f0, bB, bz, A, bA, bI⟩ := f0
                replace f0 : ρ (.tmp 17) = .pointer (some ⟨bi, 0, none⟩) := f0
                have bI2 := put_is (V := #[.int .i64 ra, .int .i64 rc, S rp]) bI bA
                have bG := put_rv (B := w6.heap.size) (L := []) bI bA (.inl bB)
                obtain ⟨a0, a1, a2, q0, q1, q2⟩ := bI.three bA; have qf := bI.2
                clear bI bA
                go_simp
                refine hK _ _ bG (⟨trivial, fun _ _ => trivial⟩) trivial ?_
                intro i hi; replace hi := hi.symm.trans f0; cases hi; exact ⟨by simpa [putV] using bz, bI2⟩
              · intro k' w' ρ hk' hR hM hD hF
                replace hk' : k' < 14 := hk'
                obtain ⟨f0, -⟩ := hF
                replace f0 : ρ (.tmp 122) = .bool ok := f0
                exact ⟨RV.refl _ _ _ _, ⟨trivial, fun _ h => h⟩, f0, trivial⟩
            · intro w' hR hM
              rintro _ rfl -
              rintro _ rfl -
              rintro _ rfl -
              rintro _ rfl -
              rintro _ rfl -
              rintro _ rfl -
              rintro _ rfl -
              rintro _ rfl -
              rintro _ rfl -
              rintro _ rfl -
              rintro _ rfl -
              rintro _ ⟨nb, rfl, nbB, nbz, -⟩ -
              rintro _ - nbS
              rintro _ rfl -
            --END
            --END
              dsimp only [EndAllL, Act.put]
              obtain ⟨w7, rfl⟩ : ∃ z, z = w' := ⟨_, rfl⟩
              have hb : Below w6.heap.size w6 w7 := hR.to_below
              obtain ⟨nz, nc, nf⟩ := nbS nb rfl
              replace mc := up_c hb mz mc
              replace s0 := (hb.cell (p := ⟨g1, k, none⟩) gz).trans s0
              replace s1 := (hb.cell (p := ⟨g2, k, none⟩) gz2).trans s1
              have HR7 := Lib.hid (HR6.out.up hb)
              have HB7 := Lib.hid (HB6.out.trans (hb.mono hX6))
              have hX7 : w.heap.size + 1 ≤ w7.heap.size := Nat.le_trans hX6 hb.size
              have hne1 : ¬ nb = wr.heap.size := by omega
              have hne2 : ¬ wr.heap.size = nb := by omega
              have HF7 := Lib.hid (HW.out.trans ((HB3.out.trans HB7.out).mono (show w.heap.size ≤ w.heap.size + 1 by omega)))
              have f0 := HR7.out.fT k
              have f1 := HR7.out.fK k
              clear hb hR nbS HR6 HB6 RVC r0 nf
              simp only [List.setIfInBounds_toArray, List.set_cons_zero, List.set_cons_succ]
              rcases ok with _ | _
              · have HN := Lib.hid (show ¬ ∃ o, HGood ms an s o from fun ⟨o, ho⟩ => by have := (HG3.out o ho).1; cases this)
                have hF := HF7.out
                clear HG3 hAe2 hRe2 HSn
                go_wp2_with fail
                go_ret2
                exact ⟨_, false, rfl, hF, .inr ⟨rfl, HN.out⟩⟩
              · have hAt := hAe2.out rfl
                subst hAt
                have HRt := Lib.hid (hRe2.out rfl)
                have HS3 := Lib.hid (fun h1 h2 => HSn.out rfl h1 h2)
                have HG4 := Lib.hid (fun o ho => (HG3.out o ho).2)
                clear hAe2 hRe2 HSn HG3
                generalize apF x ⟨fa', fc', fp'⟩ = t at *
                generalize rvF x ⟨fa', fc', fp'⟩ = rv at *
                have hrv : rv = ⟨ra, rc, rp⟩ := HRt.out.symm
                subst hrv
                clear HRt
                generalize hkk : K.getD k false = kk at s1 HG4 HS3
                generalize htk : T.getD k [] = tk at s0 HG4 HS3
                have hF := HF7.out
                clear HF7 hkk htk
                rcases kk with _ | _
                case' false => have hway : True := trivial
                case' true => rcases Decidable.em (t = tk) with hway | hway
                case' true.inl => subst hway
                case' true.inr => have hway2 : (t == tk) = false := by simpa using hway
                all_goals
                  have HR8 := Lib.hid ((HR7.out.setT k t).setK k true)
                  have HB8 := Lib.hid ((HB7.out.setCell (p := ⟨g1, k, none⟩) hX1 (S t)).setCell (p := ⟨g2, k, none⟩) hX2 (.bool true))
                  clear HR7 HB7
                  go_upto_region 26 with (fail)
                  all_goals
                    first
                      | (fail_if_success go_not_at_region 26)
                        have HS4 := Lib.hid (HS3.out (by simp only [*]) (by first | (intro _; rfl) | (intro _; assumption) | (intro h; cases h; done)))
                        clear HS3 HG4 mc nc
                        go_wp2_with fail
                        go_roundw
                        case rel => first
                          | exact ⟨k + 1, T.set k t, K.set k true, by omega, by omega, by go_num, HS4, HR8, HB8⟩
                          | (repeat apply Exists.intro
                             exact ⟨⟨k + 1, T.set k t, K.set k true, by omega, by omega, by go_num, HS4, HR8, HB8⟩, rfl⟩)
                        case measure => simp [intOf]; omega
                      | (go_wp2_with fail
                         go_ret2
                         refine ⟨_, false, rfl, hF, .inr ⟨rfl, fun ⟨o, ho⟩ => ?_⟩⟩
                         obtain ⟨e, e2⟩ := HG4.out o ho
                         simp only [Ch.mk.injEq] at e
                         obtain ⟨e1, e3, e4⟩ := e
                         first | omega | contradiction | exact absurd (e2 trivial) hway)
        · obtain rfl : k = ms.length := by omega
          have HG := Lib.hid (sInv_end HI.out HTV.out hn1 hn30 han HM0.out)
          have HOw := Lib.hid HR.out.t
          have hF := hF0.out
          have hTl := HR.out.lenT
          clear HI HR hF0 HB
          go_wp2_with fail
          go_ret2
          refine ⟨_, true, rfl, by exact bBel, .inl ⟨rfl, T, HG.out, ?_⟩⟩
          rw [hTl, stC_map]
          exact own_base HOw.out (by omega)
    · have hq1 : ((q : Int) == 0) = false := beq_eq_false_iff_ne.2 (by omega)
      have AP := Lib.hid (fun w => specApplyF_any y ⟨ba', bc', bp'⟩ w (by unfold maxLen; omega) hbl)
      unfold chAgg at AP
      simp only at AP
      have L2 := Lib.hid (fun w => l1In_any p' 0 ((q : Int) - 1) w)
      have hTv : okF y ⟨ba', bc', bp'⟩ = true → tv (apF y ⟨ba', bc', bp'⟩) = true := fun h => (okF_tv h).2
      have hAe : okF y ⟨ba', bc', bp'⟩ = true → apTo y ba' bc' bp' = apF y ⟨ba', bc', bp'⟩ := fun h => apTo_ok (x := ⟨ba', bc', bp'⟩) h
      have HG2 := Lib.hid (fun o ho => HGB.out o ho (by omega))
      clear HGB hq0
      rcases hok : okF y ⟨ba', bc', bp'⟩ with _ | _
      · have HN := Lib.hid (show ¬ ∃ o, HGood ms an s o from fun ⟨o, ho⟩ => by have := (HG2.out o ho).2.2.1; rw [hok] at this; cases this)
        rw [hok] at AP
        clear hok hTv hAe HG2
        go_wp2_with fail
        refine (AP.out _).mono ?_
        rintro e w4 ⟨rfl, hb4⟩
        have hF : Below w.heap.size w w4 := HW.out.trans ((HB3.out.trans (hb4.mono hsz)).mono (by omega))
        clear hb4
        go_wp2_with fail
        go_ret2
        exact ⟨_, false, rfl, hF, .inr ⟨rfl, HN.out⟩⟩
      · rw [hok, hAe hok] at AP
        have hT := Lib.hid (hTv hok)
        clear hok hTv hAe
        generalize apF y ⟨ba', bc', bp'⟩ = t at *
        rcases hi : inB p' 0 ((q : Int) - 1) with _ | _
        · have HN := Lib.hid (show ¬ ∃ o, HGood ms an s o from fun ⟨o, ho⟩ => by
            have := HG2.out o ho
            rw [inB_iff.2 ⟨this.1, by omega⟩] at hi; cases hi)
          rw [hi] at L2
          clear hi HG2
          go_wp2_with fail
          refine (AP.out _).mono ?_
          rintro e w4 ⟨rfl, hb4⟩
          have hF : Below w.heap.size w w4 := HW.out.trans ((HB3.out.trans (hb4.mono hsz)).mono (by omega))
          have m0' := (hb4.cell (p := ⟨wr.heap.size, 0, none⟩) mz).trans (mc 0)
          clear hb4
          go_wp2_with fail
          refine (L2.out _).mono ?_
          rintro e w5 ⟨rfl, rfl⟩
          go_wp2_with fail
          go_ret2
          exact ⟨_, false, rfl, hF, .inr ⟨rfl, HN.out⟩⟩
        · rw [hi] at L2
          have hi2 := inB_iff.1 hi
          obtain ⟨pn, rfl⟩ : ∃ pn : Nat, p' = pn := ⟨p'.toNat, by omega⟩
          have hpq : pn < q := by omega
          have HWn : Hid (WInv ms an pn s t T2 K2) := Lib.hid ⟨hwi.1, hT.out, fun o ho => by have := (HG2.out o ho).2.2.2; rwa [Int.toNat_natCast] at this, .inr ⟨by omega, hwi.2.1, hwi.2.2.1⟩⟩
          clear hi hi2 HG2 hwi
          go_wp2_with fail
          refine (AP.out _).mono ?_
          rintro e w4 ⟨rfl, hb4⟩
          have HB4 := Lib.hid (HB3.out.trans (hb4.mono hsz))
          have HR4 := Lib.hid (HR3.out.up hb4)
          have m0' := (hb4.cell (p := ⟨wr.heap.size, 0, none⟩) mz).trans (mc 0)
          clear hb4 mc AP
          go_wp2_with fail
          refine (L2.out _).mono ?_
          rintro e w5 ⟨rfl, rfl⟩
          go_wp2_with fail
          go_roundw
          case rel => exact ⟨pn, t, T2, K2, by omega, rfl, rfl, HWn, HR4, HB4⟩
          case measure => simp [intOf]; omega

end Go.Proofs.YtbjlkdenkmbepaaGreatDoor
