/- What is proved here: contracts of ShowTexts in the program and in the reference. Condition (the program's): the cell of the library's MaxLen holds an int. -/
import Derived.Test.YtcjgllbhmghkeaaDoorWr6
import Derived.Test.YtcjgllbhmghkeaaDoorShown
namespace Go.Proofs.YtcjgllbhmghkeaaDoor
open Go.RowKit
set_option linter.unusedVariables false

/-- the first row shown, and how many. -/
def shA (s : List UInt8) (wd h p : Int) : Int := showT 0 h (wtT s wd).length (roN s wd p)
def shN (s : List UInt8) (wd h p : Int) : Nat := shownN (shA s wd h p) (showH 0 h (wtT s wd).length (roN s wd p)) (wtT s wd).length
def shX (s : List UInt8) (wd h p : Int) : List (List UInt8) := ((wtT s wd).drop (shA s wd h p).toNat).take (shN s wd h p)
theorem wtT_len (s : List UInt8) (wd : Int) : (wtT s wd).length = (wrR s wd).length := by simp [wtT]
theorem shA_in (s : List UInt8) (wd h p : Int) : 0 ≤ shA s wd h p ∧ shA s wd h p ≤ 121 ∧ (shN s wd h p = 0 ∨ shA s wd h p + shN s wd h p ≤ (wtT s wd).length) ∧ shN s wd h p ≤ 30 := by
  have hl := wtT_len s wd
  have h0 := wrR_len s wd
  have h30 : shN s wd h p ≤ 30 := shownN_le _ _ _
  refine ⟨?_, ?_, ?_, h30⟩
  · unfold shA showT
    split
    · rename_i hv
      rw [Bool.and_eq_true, inB_iff] at hv
      have := vvB_out hv.1
      omega
    · omega
  · unfold shA showT
    split
    · rename_i hv
      rw [Bool.and_eq_true, inB_iff] at hv
      have := vvB_out hv.1
      omega
    · omega
  · unfold shN shownN
    split
    · have := vvB_out ‹_›
      omega
    · exact .inl rfl
theorem shX_len (s : List UInt8) (wd h p : Int) : (shX s wd h p).length = shN s wd h p := by
  have := shA_in s wd h p
  unfold shX
  rw [List.length_take, List.length_drop]
  omega
theorem shX_at (s : List UInt8) (wd h p : Int) {j : Nat} (hj : j < shN s wd h p) : ∃ (h1 : (shA s wd h p).toNat + j < (wtT s wd).length) (h2 : j < (shX s wd h p).length), (shX s wd h p)[j] = (wtT s wd)[(shA s wd h p).toNat + j] := by
  have := shA_in s wd h p
  have hl := shX_len s wd h p
  refine ⟨by omega, by omega, ?_⟩
  simp [shX]
theorem vvB_no (t rows : Int) : vvB t 0 rows = false := by
  cases h : vvB t 0 rows with
  | false => rfl
  | true => have := vvB_out h; omega
theorem shN_no {s : List UInt8} {wd h p : Int} (hb : ¬ (tv s && inB p 0 s.length && inB wd 4 40 && inB h 1 30) = true) : shX s wd h p = [] := by
  have hN : shN s wd h p = 0 := by
    have hH : showH 0 h (wtT s wd).length (roN s wd p) = 0 := by
      unfold showH
      rw [if_neg]
      intro hv
      rw [Bool.and_eq_true, inB_iff] at hv
      obtain ⟨h1, h2⟩ := hv
      have h3 := vvB_out h1
      apply hb
      unfold roN at h2
      by_cases hr : tv s = true ∧ inB wd 4 40 = true ∧ inB p 0 s.length = true
      · simp only [Bool.and_eq_true]
        exact ⟨⟨⟨hr.1, hr.2.2⟩, hr.2.1⟩, inB_iff.2 (by omega)⟩
      · rw [if_neg hr] at h2
        omega
    unfold shN
    rw [hH]
    unfold shownN
    rw [vvB_no]
    rfl
  unfold shX
  rw [hN, List.take_zero]
theorem rd_at {w : World} {A : Option Addr} {n c k : Nat} {xs : List Value} (h : Rd w 1 (.slice A n c) n xs) (hk : k < n) {u : Value} (hu : xs[k]? = some u) : ∃ b o, A = some ⟨b, o, none⟩ ∧ b < w.heap.size ∧ w.cell? ⟨b, o + k, none⟩ = some u := by
  obtain ⟨_, _, A', c', he, _, h3⟩ := h
  injection he with e1 e2 e3
  subst e1
  obtain ⟨b, o, rfl, hb, hc⟩ := h3 (by omega)
  exact ⟨b, o, rfl, hb, hc k u hu⟩

set_option maxRecDepth 100000 in
set_option maxHeartbeats 2000000 in
theorem implShowTexts_any (s : List UInt8) (wd h p : Int) (w : World) (hs : s.length ≤ maxLen) (hm : MX w) :
    Calls Tryd.prog 7 #[S s, .int .i64 wd, .int .i64 h, .int .i64 p] w (StrsPost (shX s wd h p) w) := by
  unfold StrsPost
  obtain ⟨i0, hi0, hz0, hz1, hz2⟩ := info_parts str_info
  have P := Lib.hid (fun w' => isPlaceB_any s p w' hs)
  have I := Lib.hid (fun w' => isWidth_any wd w')
  have N := Lib.hid (fun w' => in_any h 1 30 w')
  have HNO := Lib.hid (@shN_no s wd h p)
  obtain ⟨b1, hb1⟩ : ∃ b, b = (tv s && inB p 0 s.length) := ⟨_, rfl⟩
  obtain ⟨b2, hb2⟩ : ∃ b, b = inB wd 4 40 := ⟨_, rfl⟩
  obtain ⟨b3, hb3⟩ : ∃ b, b = inB h 1 30 := ⟨_, rfl⟩
  rw [← hb1, ← hb2, ← hb3] at HNO
  rw [← hb1] at P
  rw [← hb2] at I
  rw [← hb3] at N
  have R := Lib.hid (fun w' (hb : Below w.heap.size w w') => implRowTexts_any s wd w' hs (hm.up hb))
  have O := Lib.hid (fun w' (hb : Below w.heap.size w w') => implRowOf_any s wd p w' hs (hm.up hb))
  have SR := Lib.hid (fun w' => implShowRow_any 0 h (wtT s wd).length (roN s wd p) w')
  have SW := Lib.hid (fun w' => implShownRows_any (shA s wd h p) (showH 0 h (wtT s wd).length (roN s wd p)) (wtT s wd).length w')
  have HA := shA_in s wd h p
  have HL := shX_len s wd h p
  have HX := Lib.hid (fun j (hj : j < shN s wd h p) => shX_at s wd h p hj)
  have hn : (wtT s wd).length ≤ 121 := by rw [wtT_len]; exact wrR_len s wd
  have eN : shownN (shA s wd h p) (showH 0 h (wtT s wd).length (roN s wd p)) (wtT s wd).length = shN s wd h p := rfl
  have eT : showT 0 h (wtT s wd).length (roN s wd p) = shA s wd h p := rfl
  unfold ShownPost at SW
  unfold StrsPost at R
  rw [eN] at SW
  rw [eT] at SR
  clear eN eT
  generalize shX s wd h p = xs at *
  generalize shN s wd h p = n at *
  generalize shA s wd h p = t at *
  generalize showH 0 h (wtT s wd).length (roN s wd p) = sh at *
  generalize wtT s wd = ts at *
  generalize roN s wd p = r at *
  rw [HL]
  clear hb1 hb2 hb3 hm
  unfold maxLen at hs
  rcases b1 with _ | _
  · have := HNO.out (by simp)
    subst this
    obtain rfl : n = 0 := by simpa using HL.symm
    clear HNO HX
    go_enter Tryd.func7, Tryd.ntmps7
    go_wp2_with fail
    refine (P.out _).mono ?_
    rintro e w1 ⟨rfl, rfl⟩
    go_wp2_with fail
    go_ret
    exact ⟨_, rfl, World.ownsRow_nil _ _ _ _, Below.refl _ _⟩
  rcases b2 with _ | _
  · have := HNO.out (by simp)
    subst this
    obtain rfl : n = 0 := by simpa using HL.symm
    clear HNO HX
    go_enter Tryd.func7, Tryd.ntmps7
    go_wp2_with fail
    refine (P.out _).mono ?_
    rintro e w1 ⟨rfl, rfl⟩
    go_wp2_with fail
    refine (I.out _).mono ?_
    rintro e w1 ⟨rfl, rfl⟩
    go_wp2_with fail
    go_ret
    exact ⟨_, rfl, World.ownsRow_nil _ _ _ _, Below.refl _ _⟩
  rcases b3 with _ | _
  · have := HNO.out (by simp)
    subst this
    obtain rfl : n = 0 := by simpa using HL.symm
    clear HNO HX
    go_enter Tryd.func7, Tryd.ntmps7
    go_wp2_with fail
    refine (P.out _).mono ?_
    rintro e w1 ⟨rfl, rfl⟩
    go_wp2_with fail
    refine (I.out _).mono ?_
    rintro e w1 ⟨rfl, rfl⟩
    go_wp2_with fail
    refine (N.out _).mono ?_
    rintro e w1 ⟨rfl, rfl⟩
    go_wp2_with fail
    go_ret
    exact ⟨_, rfl, World.ownsRow_nil _ _ _ _, Below.refl _ _⟩
  clear HNO
  go_enter Tryd.func7, Tryd.ntmps7
  go_wp2_with fail
  refine (P.out _).mono ?_
  rintro e w1 ⟨rfl, rfl⟩
  go_wp2_with fail
  refine (I.out _).mono ?_
  rintro e w1 ⟨rfl, rfl⟩
  go_wp2_with fail
  refine (N.out _).mono ?_
  rintro e w1 ⟨rfl, rfl⟩
  go_wp2_with fail
  refine (R.out _ (by (repeat (first | exact Below.refl _ _ | assumption | refine Below.drew ?_ | refine up_drewN ?_ _ | refine up_alloc ?_ _ | refine up_set ?_ _ _ (by first | exact Nat.le_refl _ | (simp; done) | (simp; omega) | omega) | refine up_trans ?_ (by assumption))))).mono ?_
  rintro e w2 ⟨v2, rfl, ho2, hb2⟩
  have HW2 := Lib.hid (show Below w.heap.size w w2 by (repeat (first | exact Below.refl _ _ | assumption | refine Below.drew ?_ | refine up_drewN ?_ _ | refine up_alloc ?_ _ | refine up_set ?_ _ _ (by first | exact Nat.le_refl _ | (simp; done) | (simp; omega) | omega) | refine up_trans ?_ (by assumption))))
  have HT2 := Lib.hid (RdL.of_own (f := strC) (bs := ts) ho2)
  obtain ⟨A2, c2, rfl, -, -⟩ := HT2.out.form
  clear hb2 ho2 R P I N
  go_wp2_with fail
  refine (O.out _ HW2.out).mono ?_
  rintro e w3 ⟨rfl, hb3⟩
  have HW3 := Lib.hid (up_trans HW2.out hb3)
  have HT3 := Lib.hid (HT2.out.up hb3)
  clear hb3 HW2 HT2 O
  go_wp2_with fail
  refine (SR.out _).mono ?_
  rintro e w4 ⟨rfl, hb4⟩
  have HW4 := Lib.hid (up_trans HW3.out hb4)
  have HT4 := Lib.hid (HT3.out.up hb4)
  clear hb4 HW3 HT3 SR
  go_wp2_with fail
  refine (SW.out _).mono ?_
  rintro e w5 ⟨v5, rfl, ho5, hb5⟩
  have hb5' : Below w4.heap.size w4 w5 := by (repeat (first | exact Below.refl _ _ | assumption | refine Below.drew ?_ | refine up_drewN ?_ _ | refine up_alloc ?_ _ | refine up_set ?_ _ _ (by first | exact Nat.le_refl _ | (simp; done) | (simp; omega) | omega) | refine up_trans ?_ (by assumption)))
  have HW5 := Lib.hid (up_trans HW4.out hb5')
  have HT5 := Lib.hid (HT4.out.up hb5')
  have HI5 := Lib.hid (Rd.of_own ho5)
  obtain ⟨A5, c5, rfl⟩ := strs_form ho5
  obtain ⟨B0, hB0⟩ : ∃ B0, B0 = w5.heap.size := ⟨_, rfl⟩
  have hwB : w.heap.size ≤ B0 := by have := HW5.out.size; omega
  clear hb5 hb5' HW4 HT4 SW ho5
  go_wp2_with fail
  go_loopw [11, 13, 45] (fun out r i wr => ∃ (k : Nat) (OA : Option Addr) (OC : Nat), k ≤ n ∧ i = .int .i64 k ∧ out = .slice OA k OC ∧ Hid (Own wr B0 9 1 (.slice OA k OC) k ((xs.take k).flatMap strC)) ∧ Hid (Below w5.heap.size w5 wr)) (fun _ _ i _ => n - (intOf i).toNat)
  case atStart => exact ⟨0, none, 0, Nat.zero_le _, rfl, rfl, Lib.hid (World.ownsRow_nil _ _ _ _), Lib.hid (Below.refl _ _)⟩
  case round =>
    obtain ⟨k, OA, OC, hk, rfl, rfl, HO, HB⟩ := hrel
    by_cases hlt : k < n
    · have i1 : (0 : Int) ≤ (k : Int) := by omega
      have i2 : (k : Int) < (n : Int) := by omega
      obtain ⟨b, o, rfl, hbz, c0⟩ := rd_at (HI5.out.up HB.out) hlt (upInts_at t k n hlt)
      obtain ⟨h1, h2, hx⟩ := HX.out k hlt
      obtain ⟨tn, rfl⟩ : ∃ tn : Nat, t = tn := ⟨t.toNat, by omega⟩
      have hx2 : xs[k] = ts[tn + k]'(by simpa using h1) := by simpa using hx
      have h1' : tn + k < ts.length := by simpa using h1
      obtain ⟨b', o', rfl, hbz', hc'⟩ := (HT5.out.up HB.out).cells strC_len h1'
      have d0 := hc' 0 _ rfl
      simp only [Nat.mul_one, Nat.add_zero] at d0
      rw [← hx2] at d0
      obtain ⟨x, hxx⟩ : ∃ x, x = xs[k] := ⟨_, rfl⟩
      rw [← hxx] at d0
      have HXX := Lib.hid hxx
      have i3 : (0 : Int) ≤ (tn : Int) + (k : Int) := by omega
      have i4 : (tn : Int) + (k : Int) < (ts.length : Int) := by omega
      have i5 : ((tn : Int) + (k : Int)).toNat = tn + k := by omega
      have hs2 := HB.out.size
      clear hc' hxx hx hx2 h1
      go_wp2_with (at_builtin; go_loud (
                     refine wpList_append_own _ rfl _ _ 22 rfl B0 9 i0 (S []) 1 16 Tryd.underlying22 hi0 hz0 hz1 hz2 rfl (by decide) _ _ _ rfl (HO.out.alloc _) ⟨wr.heap.size, 0, none⟩ 1 1 [S x] rfl rfl (cells_new _ _ _) (by intro u hu; simp at hu; subst hu; rfl) (by unfold maxLen; omega) (by omega) (by first | omega | (simp; done) | (simp; omega)) ?_
                     intro v9 w9 how hgr _
                     have HO9 := Lib.hid (strs_snoc h2 HXX.out how)
                     obtain ⟨A9, c9, rfl⟩ := strs_form how
                     have HB9 := Lib.hid (up_own_grown (up_alloc HB.out _) (HO.out.alloc _) hgr (by omega))
                     clear how hgr))
      go_roundw
      case rel => exact ⟨k + 1, A9, c9, by omega, by go_num, rfl, HO9, HB9⟩
      case measure => simp [intOf]; omega
    · obtain rfl : k = n := by omega
      have HF := Lib.hid (show xs.take k = xs by rw [← HL, List.take_length])
      go_wp2_with fail
      go_ret
      exact ⟨_, rfl, by have := own_base HO.out hwB; rwa [HF.out] at this, up_trans HW5.out HB.out⟩

end Go.Proofs.YtcjgllbhmghkeaaDoor
