/- What is proved here: the walk of the law FnShowTexts. Condition: the cell of the library's MaxLen holds an int. -/
import Derived.Test.YtcjgllbhmghkeaaDoorWr8
import Derived.Test.YtcjgllbhmghkeaaDoorDrawW
import Derived.Test.YtcjgllbhmghkeaaDoorAlive
namespace Go.Proofs.YtcjgllbhmghkeaaDoor
open Go.RowKit
set_option linter.unusedVariables false

theorem sameTextsD_same (u v : Value) (xs : List (List UInt8)) (w : World) (hu : RdL w 1 strC u xs) (hv : RdL w 1 strC v xs) :
    Calls Tryd.prog 12 #[u, v] w fun e w' => e = .returned (.bool true) ∧ Below w.heap.size w w' := by
  obtain ⟨A, c, rfl, hm, _⟩ := hu.form
  obtain ⟨B, d, rfl, _, _⟩ := hv.form
  unfold maxLen at hm
  go_enter Tryd.func12, Tryd.ntmps12
  go_wp2_with fail
  go_loopw [5] (fun i wr => ∃ k : Nat, k ≤ xs.length ∧ i = .int .i64 k ∧ Below w.heap.size w wr) (fun i _ => xs.length - (intOf i).toNat)
  case atStart => exact ⟨0, Nat.zero_le _, rfl, Below.refl _ _⟩
  case round =>
    obtain ⟨k, hk, rfl, hW⟩ := hrel
    by_cases hlt : k < xs.length
    · have i1 : (0 : Int) ≤ (k : Int) := by omega
      have i2 : (k : Int) < (xs.length : Int) := by omega
      obtain ⟨b, o, rfl, hb, hc⟩ := (hu.up hW).cells strC_len hlt
      obtain ⟨b', o', rfl, hb', hc'⟩ := (hv.up hW).cells strC_len hlt
      have c0 := hc 0 _ rfl
      have d0 := hc' 0 _ rfl
      simp only [Nat.mul_one, Nat.add_zero] at c0 d0
      clear hc hc'
      obtain ⟨x, hx⟩ : ∃ x, x = xs[k] := ⟨_, rfl⟩
      rw [← hx] at c0 d0
      clear hx
      go_wp2_with fail
      go_quiet (fail)
      go_wp2_with fail
      go_roundw
      case rel => exact ⟨k + 1, by omega, by go_num, by (repeat (first | exact Below.refl _ _ | assumption | refine Below.drew ?_ | refine up_drewN ?_ _ | refine up_alloc ?_ _ | refine up_set ?_ _ _ (by first | exact Nat.le_refl _ | (simp; done) | (simp; omega) | omega) | refine up_trans ?_ (by assumption)))⟩
      case measure => simp [intOf]; omega
    · go_wp2_with fail
      go_ret
      exact ⟨rfl, hW⟩

def DshPost (w : World) (e : Ending) (w' : World) : Prop := ∃ (s : List UInt8) (wd h p : Int), e = .returned (.tuple #[S s, .int .i64 wd, .int .i64 h, .int .i64 p]) ∧ s.length ≤ 131 ∧ Below w.heap.size w w'
set_option maxRecDepth 100000 in
set_option maxHeartbeats 2000000 in
theorem drawShowTexts_any (v : Value) (n : Nat) (zs : List Int) (w : World) (h : Bytes w w.heap.size v n zs) :
    Calls Tryd.prog 11 #[v] w (DshPost w) := by
  unfold DshPost
  go_enter Tryd.func11, Tryd.ntmps11
  go_wp2_with fail
  refine (open_any v n zs _ (h.to (by (repeat (first | exact Below.refl _ _ | assumption | refine Below.drew ?_ | refine up_drewN ?_ _ | refine up_alloc ?_ _ | refine up_set ?_ _ _ (by first | exact Nat.le_refl _ | (simp; done) | (simp; omega) | omega) | refine up_trans ?_ (by assumption)))))).mono ?_
  rintro e w1 ⟨g, m, ys, rfl, hr, hb, hg⟩
  have hW : Below w.heap.size w w1 := by (repeat (first | exact Below.refl _ _ | assumption | refine Below.drew ?_ | refine up_drewN ?_ _ | refine up_alloc ?_ _ | refine up_set ?_ _ _ (by first | exact Nat.le_refl _ | (simp; done) | (simp; omega) | omega) | refine up_trans ?_ (by assumption)))
  clear hb h
  go_wp2_with fail
  refine (l20Text_any _ _ _ _ _ _ hr (by omega)).mono ?_
  rintro e w2 ⟨s, rfl, hs, ⟨q2, hq2, hr2⟩, hb⟩
  replace hW : w.grownBy w2 (some g) := gb_trans (gb_below (World.grownBy.refl _ _) hW) hb
  clear hb hr
  go_wp2_with fail
  refine (l20Width_any _ _ _ _ _ hr2 (by omega)).mono ?_
  rintro e w3 ⟨wd, rfl, ⟨q3, hq3, hr3⟩, hb⟩
  replace hW := gb_trans hW hb
  clear hb hr2
  go_wp2_with fail
  refine (pick_any _ _ _ _ _ _ hr3 (by omega)).mono ?_
  rintro e w4 ⟨y4, rfl, h1, h2, hr4, hb⟩
  replace hW := gb_trans hW hb
  have hy4 := h1 (by omega)
  have e4 : IntKind.i64.wrap (1 + y4) = 1 + y4 := IntWalk.i64_in _ (by omega)
  clear hb hr3 h1 h2
  go_wp2_with fail
  refine (odd_any _ _ _ _ _ _ hr4 (by omega)).mono ?_
  rintro e w5 ⟨x5, rfl, ⟨q5, hq5, hr5⟩, hb⟩
  replace hW := gb_trans hW hb
  clear hb hr4
  rcases x5 with _ | _
  · go_wp2_with fail
    refine (l20Place_any _ _ _ _ _ _ _ hr5 (by omega) (by omega)).mono ?_
    rintro e w6 ⟨pl, rfl, ⟨q6, hq6, hr6⟩, hb⟩
    replace hW := gb_trans hW hb
    have hWB := Lib.hid (below_of_gb hW (by omega))
    clear hb hr5 hr6 hW
    go_wp2_with fail
    refine bodyPost_ret (v := .tuple #[S s, .int .i64 wd, .int .i64 _, .int .i64 pl]) (by simp [results, Tryd.results11, go_sem]; rfl) rfl ⟨_, _, _, _, rfl, by omega, hWB.out⟩
  · go_wp2_with fail
    have hB : Below w5.heap.size w5 (w5.alloc (.cells #[.int .i64 0, .int .i64 31] 3)) := by (repeat (first | exact Below.refl _ _ | assumption | refine Below.drew ?_ | refine up_drewN ?_ _ | refine up_alloc ?_ _ | refine up_set ?_ _ _ (by first | exact Nat.le_refl _ | (simp; done) | (simp; omega) | omega) | refine up_trans ?_ (by assumption)))
    refine (pick_any _ _ _ _ _ _ (hr5.up (by (repeat (first | exact Below.refl _ _ | assumption | refine Below.drew ?_ | refine up_drewN ?_ _ | refine up_alloc ?_ _ | refine up_set ?_ _ _ (by first | exact Nat.le_refl _ | (simp; done) | (simp; omega) | omega) | refine up_trans ?_ (by assumption))))) (by omega)).mono ?_
    have hg5 := hr5.lt
    rintro e w6 ⟨y6, rfl, h1, h2, hr6, hb⟩
    have hG : w5.grownBy w6 (some g) := gb_trans (gb_alloc (World.grownBy.refl _ _) _) hb
    have lc : ∀ o, w6.cell? ⟨w5.heap.size, o, none⟩ = #[.int .i64 0, .int .i64 31][o]? := gup_c hb (by simp <;> omega) (by omega) (fun o => by simp [go_sem]); have lf : ∀ o, w6.frozen? ⟨w5.heap.size, o, none⟩ = false := gup_f hb (by simp <;> omega) (by omega) (fun o => by simp [go_sem]); have lz : w5.heap.size < w6.heap.size := (by have := hb.size; (try simp at this); omega); have ly := lz
    replace hW := gb_trans hW hG
    have hy6 := h1 (by omega)
    obtain ⟨y, hy⟩ := at2 0 31 y6 hy6.1 hy6.2
    have lc1 := (lc y6.toNat).trans hy
    clear hb hr5 h1 h2 lc lf ly hy hB hG
    go_wp2_with fail
    refine (l20Place_any _ _ _ _ _ _ _ hr6 (by omega) (by omega)).mono ?_
    rintro e w7 ⟨pl, rfl, ⟨q7, hq7, hr7⟩, hb⟩
    replace hW := gb_trans hW hb
    have hWB := Lib.hid (below_of_gb hW (by omega))
    clear hb hr6 hr7 hW
    go_wp2_with fail
    refine bodyPost_ret (v := .tuple #[S s, .int .i64 wd, .int .i64 _, .int .i64 pl]) (by simp [results, Tryd.results11, go_sem]; rfl) rfl ⟨_, _, _, _, rfl, by omega, hWB.out⟩

theorem shX_facts {s : List UInt8} {wd h p : Int} (hn : 0 < shN s wd h p) : 0 ≤ roN s wd p ∧ roN s wd p < (wtT s wd).length ∧ shA s wd h p ≤ roN s wd p ∧ roN s wd p < shA s wd h p + shN s wd h p ∧ (shN s wd h p : Int) = min h (wtT s wd).length := by
  obtain ⟨N, hN⟩ : ∃ N, N = shN s wd h p := ⟨_, rfl⟩
  obtain ⟨T, hT⟩ : ∃ T, T = shA s wd h p := ⟨_, rfl⟩
  rw [← hN] at hn ⊢
  rw [← hT]
  unfold shN at hN
  rw [← hT] at hN
  unfold shA at hT
  generalize roN s wd p = r at *
  generalize (wtT s wd).length = rows at *
  unfold shownN at hN
  unfold showT at hT
  unfold showH at hN
  by_cases hv : (vvB 0 h rows && inB r 0 ((rows : Int) - 1)) = true
  · rw [if_pos hv] at hT hN
    rw [Bool.and_eq_true, inB_iff] at hv
    have h1 := vvB_out hv.1
    split at hN <;> omega
  · rw [if_neg hv] at hT hN
    rw [hT, vvB_no] at hN
    simp at hN
    omega
theorem wtT_wide (s : List UInt8) (wd : Int) : ∀ x ∈ wtT s wd, (x.length : Int) ≤ wd := by
  intro x hx
  unfold wtT at hx
  rw [List.mem_map] at hx
  obtain ⟨r, hr, rfl⟩ := hx
  have := wrR_in s wd r hr
  rw [List.length_drop, List.length_take]
  omega
set_option maxRecDepth 100000 in
set_option maxHeartbeats 2000000 in
theorem showTexts_walk (v : Value) (n : Nat) (zs : List Int) (w : World) (h : Bytes w w.heap.size v n zs) (hm : MX w) :
    Calls Tryd.prog 4 #[v] w fun e w' => e = .returned (.bool true) ∧ Below w.heap.size w w' := by
  have h' := h
  obtain ⟨h1, h2, A0, c0, rfl, h3, h4, h5⟩ := h
  clear h5 h2 h1 h4
  by_cases hn : n ≤ 1048576
  case neg =>
    go_enter Tryd.func4, Tryd.ntmps4
    go_wp2_with fail
    go_ret
    exact ⟨rfl, Below.refl _ _⟩
  have HM := Lib.hid hm
  clear hm
  go_enter Tryd.func4, Tryd.ntmps4
  go_wp2_with fail
  refine (drawShowTexts_any _ n zs _ (h'.to (by (repeat (first | exact Below.refl _ _ | assumption | refine Below.drew ?_ | refine up_drewN ?_ _ | refine up_alloc ?_ _ | refine up_set ?_ _ _ (by first | exact Nat.le_refl _ | (simp; done) | (simp; omega) | omega) | refine up_trans ?_ (by assumption)))))).mono ?_
  rintro e w1 ⟨s, wd, hh, p, rfl, hs, hb⟩
  have hW : Below w.heap.size w w1 := by (repeat (first | exact Below.refl _ _ | assumption | refine Below.drew ?_ | refine up_drewN ?_ _ | refine up_alloc ?_ _ | refine up_set ?_ _ _ (by first | exact Nat.le_refl _ | (simp; done) | (simp; omega) | omega) | refine up_trans ?_ (by assumption)))
  clear hb h'
  have FI := Lib.hid (fun w' (hb : Below w.heap.size w w') => implShowTexts_any s wd hh p w' (by unfold maxLen; omega) (HM.out.up hb))
  have FS := Lib.hid (fun w' => specShowTexts_any s wd hh p w' (by unfold maxLen; omega))
  have FR := Lib.hid (fun w' (hb : Below w.heap.size w w') => implRowTexts_any s wd w' (by unfold maxLen; omega) (HM.out.up hb))
  have FO := Lib.hid (fun w' (hb : Below w.heap.size w w') => implRowOf_any s wd p w' (by unfold maxLen; omega) (HM.out.up hb))
  have HL := shX_len s wd hh p
  have HT : (wtT s wd).length ≤ 121 := by rw [wtT_len]; exact wrR_len s wd
  have HA := shA_in s wd hh p
  have HX := Lib.hid (fun j (hj : j < shN s wd hh p) => shX_at s wd hh p hj)
  have HF := Lib.hid (fun hn => @shX_facts s wd hh p hn)
  have HWD := Lib.hid (wtT_wide s wd)
  unfold StrsPost at FI FS FR
  generalize shX s wd hh p = xs at *
  generalize shN s wd hh p = N at *
  generalize shA s wd hh p = T at *
  generalize wtT s wd = ts at *
  generalize roN s wd p = r at *
  clear HM
  go_wp2_with fail
  refine (FI.out _ hW).mono ?_
  rintro e w2 ⟨g0, rfl, hg0, hb⟩
  replace hW := up_trans hW hb
  have G2 := Lib.hid (RdL.of_own (f := strC) (bs := xs) hg0)
  clear hb FI hg0
  go_wp2_with fail
  refine (FS.out _).mono ?_
  rintro e w3 ⟨v0, rfl, ho0, hb⟩
  replace hW := up_trans hW hb
  have G3 := Lib.hid (G2.out.up hb)
  clear hb FS G2
  go_wp2_with fail
  refine (sameTextsD_same _ _ xs _ G3.out (RdL.of_own ho0)).mono ?_
  rintro e w4 ⟨rfl, hb⟩
  replace hW := up_trans hW hb
  have G4 := Lib.hid (G3.out.up hb)
  obtain ⟨A, c, rfl, -, -⟩ := G3.out.form
  clear hb G3 ho0
  by_cases h0 : xs.length = 0
  · have i0 : ((xs.length : Int) == 0) = true := by simp [h0]
    clear h0
    go_wp2_with fail
    refine (alive_any _).mono ?_
    rintro e w5 ⟨rfl, rfl⟩
    go_wp2_with fail
    go_ret
    exact ⟨rfl, hW⟩
  have i0 : ((xs.length : Int) == 0) = false := by rw [beq_eq_false_iff_ne]; omega
  obtain ⟨f1, f2, f3, f4, f5⟩ := HF.out (by omega)
  subst HL
  have H5 := Lib.hid f5
  clear HF f5
  go_wp2_with fail
  refine (FR.out _ hW).mono ?_
  rintro e w5 ⟨v5, rfl, ho5, hb⟩
  replace hW := up_trans hW hb
  have G5 := Lib.hid (G4.out.up hb)
  have T5 := Lib.hid (RdL.of_own (f := strC) (bs := ts) ho5)
  obtain ⟨B, d, rfl, -, -⟩ := T5.out.form
  clear hb FR G4 ho5
  go_wp2_with fail
  refine (FO.out _ hW).mono ?_
  rintro e w6 ⟨rfl, hb⟩
  replace hW := up_trans hW hb
  have G6 := Lib.hid (G5.out.up hb)
  have T6 := Lib.hid (T5.out.up hb)
  clear hb FO G5 T5
  obtain ⟨rn, rfl⟩ : ∃ rn : Nat, r = rn := ⟨r.toNat, by omega⟩
  obtain ⟨tn, rfl⟩ : ∃ tn : Nat, T = tn := ⟨T.toNat, by omega⟩
  have hrt : rn < ts.length := by omega
  have HW := Lib.hid hW
  obtain ⟨B', o', rfl, hb6, hc'⟩ := T6.out.cells strC_len hrt
  have D0 := Lib.hid (hc' 0 _ rfl)
  simp only [Nat.mul_one, Nat.add_zero] at D0
  have HY : Hid (∀ (h : rn - tn < xs.length), xs[rn - tn] = ts[rn]) := Lib.hid (by
    intro h
    obtain ⟨k1, k2, k3⟩ := HX.out (rn - tn) (by omega)
    rw [k3]
    congr 1
    omega)
  have HXW : Hid (∀ j (h : j < xs.length), ((xs[j]).length : Int) ≤ wd) := Lib.hid (by
    intro j h
    obtain ⟨k1, k2, k3⟩ := HX.out j (by omega)
    rw [k3]
    exact HWD.out _ (List.getElem_mem _))
  obtain ⟨y, hy⟩ : ∃ y, y = ts[rn] := ⟨_, rfl⟩
  rw [← hy] at D0 HY
  have h30 : xs.length ≤ 30 := HA.2.2.2
  clear hc' HX HWD hy hW HA
  go_wp2_with fail
  go_loopw [10, 11] (fun hit i wr => ∃ (k : Nat) (b : Bool), k ≤ xs.length ∧ i = .int .i64 k ∧ hit = .bool b ∧ Hid (rn - tn < k → b = true) ∧ Hid (Below w6.heap.size w6 wr)) (fun _ i _ => xs.length - (intOf i).toNat)
  case atStart => exact ⟨0, false, Nat.zero_le _, rfl, rfl, Lib.hid (fun h => absurd h (Nat.not_lt_zero _)), Lib.hid (Below.refl _ _)⟩
  case round =>
    obtain ⟨k, b, hk, rfl, rfl, HB, HR⟩ := hrel
    by_cases hlt : k < xs.length
    · have i1 : (0 : Int) ≤ (k : Int) := by omega
      have i2 : (k : Int) < (xs.length : Int) := by omega
      have i3 : (0 : Int) ≤ (rn : Int) := by omega
      have i4 : (rn : Int) < (ts.length : Int) := by omega
      obtain ⟨b1, o1, rfl, hb1, hc⟩ := (G6.out.up HR.out).cells strC_len hlt
      have c0 := hc 0 _ rfl
      have d0 := (HR.out.cell (p := ⟨B', o' + rn, none⟩) hb6).trans D0.out
      simp only [Nat.mul_one, Nat.add_zero] at c0
      have i5 := HXW.out k hlt
      have HK := Lib.hid (fun (e : rn - tn = k) => (show xs[k] = y by have := HY.out (by omega); subst e; exact this))
      obtain ⟨x, hx⟩ : ∃ x, x = xs[k] := ⟨_, rfl⟩
      rw [← hx] at c0 i5 HK
      have i6 : ¬ wd < (x.length : Int) := by omega
      clear hc hx i5
      rcases b with _ | _
      · rcases he : (x == y) with _ | _
        · have HB2 : Hid (rn - tn < k + 1 → false = true) := Lib.hid (by
            intro hlt2
            by_cases e : rn - tn = k
            · have := HK.out e
              rw [this] at he
              simp at he
            · exact HB.out (by omega))
          clear HB HK
          go_wp2_with fail
          go_quiet (fail)
          go_wp2_with fail
          go_roundw
          case rel => exact ⟨k + 1, false, by omega, by go_num, rfl, HB2, Lib.hid (have hQ := HR.out; by (repeat (first | exact Below.refl _ _ | assumption | refine Below.drew ?_ | refine up_drewN ?_ _ | refine up_alloc ?_ _ | refine up_set ?_ _ _ (by first | exact Nat.le_refl _ | (simp; done) | (simp; omega) | omega) | refine up_trans ?_ (by assumption))))⟩
          case measure => simp [intOf]; omega
        · clear HB HK
          go_wp2_with fail
          go_quiet (fail)
          go_wp2_with fail
          go_roundw
          case rel => exact ⟨k + 1, true, by omega, by go_num, rfl, Lib.hid (fun _ => rfl), Lib.hid (have hQ := HR.out; by (repeat (first | exact Below.refl _ _ | assumption | refine Below.drew ?_ | refine up_drewN ?_ _ | refine up_alloc ?_ _ | refine up_set ?_ _ _ (by first | exact Nat.le_refl _ | (simp; done) | (simp; omega) | omega) | refine up_trans ?_ (by assumption))))⟩
          case measure => simp [intOf]; omega
      · clear HB HK
        go_wp2_with fail
        go_quiet (fail)
        go_wp2_with fail
        go_roundw
        case rel => exact ⟨k + 1, true, by omega, by go_num, rfl, Lib.hid (fun _ => rfl), Lib.hid (have hQ := HR.out; by (repeat (first | exact Below.refl _ _ | assumption | refine Below.drew ?_ | refine up_drewN ?_ _ | refine up_alloc ?_ _ | refine up_set ?_ _ _ (by first | exact Nat.le_refl _ | (simp; done) | (simp; omega) | omega) | refine up_trans ?_ (by assumption))))⟩
        case measure => simp [intOf]; omega
    · obtain rfl : k = xs.length := by omega
      obtain rfl : b = true := HB.out (by omega)
      have f5 := H5.out
      have m5 : ((xs.length : Int) == min hh (ts.length : Int)) = true := by rw [f5]; simp
      clear f5 f1 f2 f3 f4
      go_wp2_with fail
      go_ret
      exact ⟨rfl, up_trans HW.out HR.out⟩

end Go.Proofs.YtcjgllbhmghkeaaDoor
