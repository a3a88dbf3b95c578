/- What is proved here: the contract of the reference's TableValid. No condition. -/
import Derived.Test.YtlejfmngpbcdhaaTab3
namespace Go.Proofs.Ytlejfmngpbcdhaa
open Go.RowKit
set_option linter.unusedVariables false

theorem pc_two (st sz r : Int) : (inB st 0 r && inB sz 1 (r - st)) = (inB st 0 (r - 1) && inB sz 1 (r - st)) := by
  rw [Bool.eq_iff_iff, Bool.and_eq_true, Bool.and_eq_true, inB_iff, inB_iff, inB_iff]
  omega

set_option maxRecDepth 100000 in
set_option maxHeartbeats 2000000 in
theorem specTableValid_any (f m : List UInt8) (v : Value) (ps : List Pc) (w : World) (h : RdP w v ps) (hf : f.length ≤ 1048576) (hm : m.length ≤ 1048576) :
    Calls Try.prog 32 #[tbAgg f m v] w fun e w' => e = .returned (.bool (tbB f m ps)) ∧ Below w.heap.size w w' := by
  obtain ⟨A, c, rfl, hpl, _⟩ := h.form
  unfold tbAgg
  unfold maxLen at hpl
  have T := Lib.hid (fun w => specTextValid_any f w (by unfold maxLen; omega))
  have L := Lib.hid (fun w => l1Plain_any m w (by unfold maxLen; omega))
  have HA := Lib.hid (show ∀ b, psOk f m 0 ps = b → tbB f m ps = (tv f && decide (m.length ≤ 400) && m.all okC && b) from fun b hb => by rw [← hb]; rfl)
  have H := Lib.hid h
  clear h
  go_enter Try.func32, Try.ntmps32
  go_upto_region 1 with (fail)
  obtain ⟨w1, hw1⟩ : ∃ z, z = w.alloc (.cells #[S f, S m, .slice A ps.length c] 48) := ⟨_, rfl⟩
  have hb : Below (w.alloc (.cells #[S f, S m, .slice A ps.length c] 48)).heap.size (w.alloc (.cells #[S f, S m, .slice A ps.length c] 48)) w1 := by rw [hw1]; exact Below.refl _ _
  rw [← hw1]
  have tc : ∀ o, w1.cell? ⟨w.heap.size, o, none⟩ = #[S f, S m, .slice A ps.length c][o]? := (fun o => (hb.cell (p := ⟨w.heap.size, o, none⟩) (by simp <;> omega)).trans (by simp [go_sem])); have tf : ∀ o, w1.frozen? ⟨w.heap.size, o, none⟩ = false := (fun o => (hb.frozen (p := ⟨w.heap.size, o, none⟩) (by simp <;> omega)).trans (by simp [go_sem])); have tz : w.heap.size < w1.heap.size := (by have := hb.size; (try simp at this); omega); have ty := tz
  have hW : Below w.heap.size w w1 := by (repeat (first | exact Below.refl _ _ | assumption | refine Below.drew ?_ | refine up_drewN ?_ _ | refine up_alloc ?_ _ | refine up_set ?_ _ _ (by first | exact Nat.le_refl _ | (simp; done) | (simp; omega) | omega) | refine up_trans ?_ (by assumption)))
  clear hb hw1
  go_wp2_with fail
  go_loopw [3, 4, 5, 6] (fun al i p r wr => ∃ (k : Nat) (tt : Int), k ≤ ps.length ∧ i = .int .i64 k ∧ al = .int .i64 tt ∧ 0 ≤ tt ∧ tt ≤ 120 ∧ Hid (psOk f m 0 ps = psOk f m tt (ps.drop k)) ∧ Below w1.heap.size w1 wr) (fun _ i _ _ _ => ps.length - (intOf i).toNat)
  case atStart => exact ⟨0, 0, Nat.zero_le _, rfl, rfl, by omega, by omega, Lib.hid rfl, Below.refl _ _⟩
  case round =>
    obtain ⟨k, tt, hk, rfl, rfl, ht0, ht1, hps, hWr⟩ := hrel
    have tc2 := up_c hWr tz tc
    have tf2 := up_f hWr tz tf
    have swr := hWr.size
    have hW2 := up_trans hW hWr
    by_cases hlt : k < ps.length
    · have i1 : (0 : Int) ≤ (k : Int) := by omega
      have i2 : (k : Int) < (ps.length : Int) := by omega
      have hd := Lib.hid (psOk_drop f m tt ps k hlt)
      obtain ⟨b, o, rfl, hbz, c0, c1, c2⟩ := rdP_cells (H.out.up hW2) hlt
      obtain ⟨x, hx⟩ : ∃ x, x = ps[k] := ⟨_, rfl⟩
      rw [← hx] at c0 c1 c2 hd
      clear hx
      obtain ⟨ad, st, sz⟩ := x
      simp only at c0 c1 c2 hd
      have tz2 : w.heap.size < wr.heap.size := by omega
      have tn1 : ¬ wr.heap.size = w.heap.size := by omega
      have tn2 : ¬ w.heap.size = wr.heap.size := by omega
      rcases ad with _ | _
      · have hsub0 : IntKind.i64.wrap ((f.length : Int) - 1) = (f.length : Int) - 1 := IntWalk.i64_in _ (by omega)
        have hpk := Lib.hid (show pcOk f m ⟨false, st, sz⟩ = (inB st 0 ((f.length : Int) - 1) && inB sz 1 ((f.length : Int) - st)) from pc_two st sz _)
        rcases hi1 : inB st 0 ((f.length : Int) - 1) with _ | _
        · have hfin := Lib.hid (show psOk f m 0 ps = false by rw [hps.out, hd.out, hpk.out, hi1]; rfl)
          go_wp2_with fail
          refine (l1In_any _ _ _ _).mono ?_
          rintro e w2 ⟨rfl, rfl⟩
          rw [hi1]
          go_wp2_with fail
          go_ret
          exact ⟨ret_bool (by rw [HA.out _ hfin.out, Bool.and_false]), by (repeat (first | exact Below.refl _ _ | assumption | refine Below.drew ?_ | refine up_drewN ?_ _ | refine up_alloc ?_ _ | refine up_set ?_ _ _ (by first | exact Nat.le_refl _ | (simp; done) | (simp; omega) | omega) | refine up_trans ?_ (by assumption)))⟩
        · have b1 := inB_iff.1 hi1
          have hsub : IntKind.i64.wrap ((f.length : Int) - st) = (f.length : Int) - st := IntWalk.i64_in _ (by omega)
          rcases hi2 : inB sz 1 ((f.length : Int) - st) with _ | _
          · have hfin := Lib.hid (show psOk f m 0 ps = false by rw [hps.out, hd.out, hpk.out, hi1, hi2]; rfl)
            go_wp2_with fail
            refine (l1In_any _ _ _ _).mono ?_
            rintro e w2 ⟨rfl, rfl⟩
            rw [hi1]
            go_wp2_with fail
            refine (l1In_any _ _ _ _).mono ?_
            rintro e w2 ⟨rfl, rfl⟩
            rw [hi2]
            go_wp2_with fail
            go_ret
            exact ⟨ret_bool (by rw [HA.out _ hfin.out, Bool.and_false]), by (repeat (first | exact Below.refl _ _ | assumption | refine Below.drew ?_ | refine up_drewN ?_ _ | refine up_alloc ?_ _ | refine up_set ?_ _ _ (by first | exact Nat.le_refl _ | (simp; done) | (simp; omega) | omega) | refine up_trans ?_ (by assumption)))⟩
          · have b2 := inB_iff.1 hi2
            have hadd : IntKind.i64.wrap (tt + sz) = tt + sz := IntWalk.i64_in _ (by omega)
            by_cases h120 : 120 < tt + sz
            · have hfin := Lib.hid (show psOk f m 0 ps = false by rw [hps.out, hd.out, decide_eq_false (by omega)]; simp)
              go_wp2_with fail
              refine (l1In_any _ _ _ _).mono ?_
              rintro e w2 ⟨rfl, rfl⟩
              rw [hi1]
              go_wp2_with fail
              refine (l1In_any _ _ _ _).mono ?_
              rintro e w2 ⟨rfl, rfl⟩
              rw [hi2]
              go_wp2_with fail
              go_ret
              exact ⟨ret_bool (by rw [HA.out _ hfin.out, Bool.and_false]), by (repeat (first | exact Below.refl _ _ | assumption | refine Below.drew ?_ | refine up_drewN ?_ _ | refine up_alloc ?_ _ | refine up_set ?_ _ _ (by first | exact Nat.le_refl _ | (simp; done) | (simp; omega) | omega) | refine up_trans ?_ (by assumption)))⟩
            · have hnx := Lib.hid (show psOk f m 0 ps = psOk f m (tt + sz) (ps.drop (k + 1)) by rw [hps.out, hd.out, hpk.out, hi1, hi2, decide_eq_true (by omega)]; rfl)
              go_wp2_with fail
              refine (l1In_any _ _ _ _).mono ?_
              rintro e w2 ⟨rfl, rfl⟩
              rw [hi1]
              go_wp2_with fail
              refine (l1In_any _ _ _ _).mono ?_
              rintro e w2 ⟨rfl, rfl⟩
              rw [hi2]
              go_wp2_with fail
              go_roundw
              case rel => exact ⟨k + 1, tt + sz, by omega, by go_num, rfl, by omega, by omega, hnx, by (repeat (first | exact Below.refl _ _ | assumption | refine Below.drew ?_ | refine up_drewN ?_ _ | refine up_alloc ?_ _ | refine up_set ?_ _ _ (by first | exact Nat.le_refl _ | (simp; done) | (simp; omega) | omega) | refine up_trans ?_ (by assumption)))⟩
              case measure => simp [intOf]; omega
      · have hsub0 : IntKind.i64.wrap ((m.length : Int) - 1) = (m.length : Int) - 1 := IntWalk.i64_in _ (by omega)
        have hpk := Lib.hid (show pcOk f m ⟨true, st, sz⟩ = (inB st 0 ((m.length : Int) - 1) && inB sz 1 ((m.length : Int) - st)) from pc_two st sz _)
        rcases hi1 : inB st 0 ((m.length : Int) - 1) with _ | _
        · have hfin := Lib.hid (show psOk f m 0 ps = false by rw [hps.out, hd.out, hpk.out, hi1]; rfl)
          go_wp2_with fail
          refine (l1In_any _ _ _ _).mono ?_
          rintro e w2 ⟨rfl, rfl⟩
          rw [hi1]
          go_wp2_with fail
          go_ret
          exact ⟨ret_bool (by rw [HA.out _ hfin.out, Bool.and_false]), by (repeat (first | exact Below.refl _ _ | assumption | refine Below.drew ?_ | refine up_drewN ?_ _ | refine up_alloc ?_ _ | refine up_set ?_ _ _ (by first | exact Nat.le_refl _ | (simp; done) | (simp; omega) | omega) | refine up_trans ?_ (by assumption)))⟩
        · have b1 := inB_iff.1 hi1
          have hsub : IntKind.i64.wrap ((m.length : Int) - st) = (m.length : Int) - st := IntWalk.i64_in _ (by omega)
          rcases hi2 : inB sz 1 ((m.length : Int) - st) with _ | _
          · have hfin := Lib.hid (show psOk f m 0 ps = false by rw [hps.out, hd.out, hpk.out, hi1, hi2]; rfl)
            go_wp2_with fail
            refine (l1In_any _ _ _ _).mono ?_
            rintro e w2 ⟨rfl, rfl⟩
            rw [hi1]
            go_wp2_with fail
            refine (l1In_any _ _ _ _).mono ?_
            rintro e w2 ⟨rfl, rfl⟩
            rw [hi2]
            go_wp2_with fail
            go_ret
            exact ⟨ret_bool (by rw [HA.out _ hfin.out, Bool.and_false]), by (repeat (first | exact Below.refl _ _ | assumption | refine Below.drew ?_ | refine up_drewN ?_ _ | refine up_alloc ?_ _ | refine up_set ?_ _ _ (by first | exact Nat.le_refl _ | (simp; done) | (simp; omega) | omega) | refine up_trans ?_ (by assumption)))⟩
          · have b2 := inB_iff.1 hi2
            have hadd : IntKind.i64.wrap (tt + sz) = tt + sz := IntWalk.i64_in _ (by omega)
            by_cases h120 : 120 < tt + sz
            · have hfin := Lib.hid (show psOk f m 0 ps = false by rw [hps.out, hd.out, decide_eq_false (by omega)]; simp)
              go_wp2_with fail
              refine (l1In_any _ _ _ _).mono ?_
              rintro e w2 ⟨rfl, rfl⟩
              rw [hi1]
              go_wp2_with fail
              refine (l1In_any _ _ _ _).mono ?_
              rintro e w2 ⟨rfl, rfl⟩
              rw [hi2]
              go_wp2_with fail
              go_ret
              exact ⟨ret_bool (by rw [HA.out _ hfin.out, Bool.and_false]), by (repeat (first | exact Below.refl _ _ | assumption | refine Below.drew ?_ | refine up_drewN ?_ _ | refine up_alloc ?_ _ | refine up_set ?_ _ _ (by first | exact Nat.le_refl _ | (simp; done) | (simp; omega) | omega) | refine up_trans ?_ (by assumption)))⟩
            · have hnx := Lib.hid (show psOk f m 0 ps = psOk f m (tt + sz) (ps.drop (k + 1)) by rw [hps.out, hd.out, hpk.out, hi1, hi2, decide_eq_true (by omega)]; rfl)
              go_wp2_with fail
              refine (l1In_any _ _ _ _).mono ?_
              rintro e w2 ⟨rfl, rfl⟩
              rw [hi1]
              go_wp2_with fail
              refine (l1In_any _ _ _ _).mono ?_
              rintro e w2 ⟨rfl, rfl⟩
              rw [hi2]
              go_wp2_with fail
              go_roundw
              case rel => exact ⟨k + 1, tt + sz, by omega, by go_num, rfl, by omega, by omega, hnx, by (repeat (first | exact Below.refl _ _ | assumption | refine Below.drew ?_ | refine up_drewN ?_ _ | refine up_alloc ?_ _ | refine up_set ?_ _ _ (by first | exact Nat.le_refl _ | (simp; done) | (simp; omega) | omega) | refine up_trans ?_ (by assumption)))⟩
              case measure => simp [intOf]; omega
    · obtain rfl : k = ps.length := by omega
      have hfin := Lib.hid (show psOk f m 0 ps = true by rw [hps.out, List.drop_length]; rfl)
      have HT := Lib.hid (HA.out _ hfin.out)
      rcases ht : tv f with _ | _
      · have HF := Lib.hid ht
        rw [ht] at T
        clear ht
        go_wp2_with fail
        refine (T.out _).mono ?_
        rintro e w2 ⟨rfl, rfl⟩
        go_wp2_with fail
        go_ret
        exact ⟨ret_bool (by rw [HT.out, HF.out]; rfl), hW2⟩
      · have HF := Lib.hid ht
        rw [ht] at T
        clear ht
        by_cases h4 : m.length ≤ 400
        · have h4' : (m.length : Int) ≤ 400 := by omega
          go_wp2_with fail
          refine (T.out _).mono ?_
          rintro e w2 ⟨rfl, rfl⟩
          go_wp2_with fail
          refine (L.out _).mono ?_
          rintro e w2 ⟨rfl, rfl⟩
          go_wp2_with fail
          go_ret
          exact ⟨ret_bool (by rw [HT.out, HF.out, decide_eq_true h4]; simp), hW2⟩
        · have h4' : ¬ (m.length : Int) ≤ 400 := by omega
          go_wp2_with fail
          refine (T.out _).mono ?_
          rintro e w2 ⟨rfl, rfl⟩
          go_wp2_with fail
          go_ret
          exact ⟨ret_bool (by rw [HT.out, HF.out, decide_eq_false h4]; simp), hW2⟩

end Go.Proofs.Ytlejfmngpbcdhaa
