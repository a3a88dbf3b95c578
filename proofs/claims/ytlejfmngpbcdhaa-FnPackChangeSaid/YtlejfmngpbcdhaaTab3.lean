/- What is proved here: the contract of the program's TableValid. No condition. -/
import Derived.Test.YtlejfmngpbcdhaaTab0
import Derived.Test.YtlejfmngpbcdhaaTab2
import Derived.Test.YtlejfmngpbcdhaaText1
import Derived.Deep.Cut
import Derived.Deep.CutRange
namespace Go.Proofs.Ytlejfmngpbcdhaa
open Go.RowKit
set_option linter.unusedVariables false

theorem psOk_drop (f m : List UInt8) (t : Int) (ps : List Pc) (k : Nat) (hk : k < ps.length) : psOk f m t (ps.drop k) = (pcOk f m ps[k] && decide (t + ps[k].sz ≤ 120) && psOk f m (t + ps[k].sz) (ps.drop (k + 1))) := by
  rw [List.drop_eq_getElem_cons hk, psOk]

set_option maxRecDepth 100000 in
set_option maxHeartbeats 2000000 in
theorem implTableValid_any (f m : List UInt8) (v : Value) (ps : List Pc) (w : World) (h : RdP w v ps) (hf : f.length ≤ maxLen) (hm : m.length ≤ maxLen) :
    Calls Try.prog 31 #[tbAgg f m v] w fun e w' => e = .returned (.bool (tbB f m ps)) ∧ Below w.heap.size w w' := by
  obtain ⟨A, c, rfl, hpl, _⟩ := h.form
  unfold tbAgg
  unfold maxLen at hpl
  have T := Lib.hid (fun w => implTextValid_any f w hf)
  rcases ht : tv f with _ | _
  · have e := Lib.hid (show tbB f m ps = false by unfold tbB; rw [ht]; rfl)
    rw [ht] at T
    rw [e.out]
    clear ht e
    go_enter Try.func31, Try.ntmps31
    go_wp2_with fail
    refine (T.out _).mono ?_
    rintro e w1 ⟨rfl, rfl⟩
    go_wp2_with fail
    go_ret
    exact ⟨rfl, by (repeat (first | exact Below.refl _ _ | assumption | refine Below.drew ?_ | refine up_drewN ?_ _ | refine up_alloc ?_ _ | refine up_set ?_ _ _ (by first | exact Nat.le_refl _ | (simp; done) | (simp; omega) | omega) | refine up_trans ?_ (by assumption)))⟩
  have hfl := tv_len ht
  rw [ht] at T
  by_cases h4 : 400 < m.length
  · have e := Lib.hid (show tbB f m ps = false by unfold tbB; rw [ht, decide_eq_false (by omega)]; rfl)
    rw [e.out]
    clear ht e
    go_enter Try.func31, Try.ntmps31
    go_wp2_with fail
    refine (T.out _).mono ?_
    rintro e w1 ⟨rfl, rfl⟩
    go_wp2_with fail
    go_ret
    exact ⟨rfl, by (repeat (first | exact Below.refl _ _ | assumption | refine Below.drew ?_ | refine up_drewN ?_ _ | refine up_alloc ?_ _ | refine up_set ?_ _ _ (by first | exact Nat.le_refl _ | (simp; done) | (simp; omega) | omega) | refine up_trans ?_ (by assumption)))⟩
  have e := Lib.hid (show tbB f m ps = (m.all okC && psOk f m 0 ps) by unfold tbB; rw [ht, decide_eq_true (by omega)]; simp)
  rw [e.out]
  clear ht e
  have H := Lib.hid h
  clear h
  have hm4 : m.length ≤ 400 := by omega
  clear hm hf
  go_enter Try.func31, Try.ntmps31
  go_wp2_with fail
  refine (T.out _).mono ?_
  rintro e w1 ⟨rfl, rfl⟩
  go_upto_region 3 with (fail)
  obtain ⟨w1, hw1⟩ : ∃ z, z = w.alloc (.cells #[S f, S m, .slice A ps.length c] 48) := ⟨_, rfl⟩
  have hb : Below (w.alloc (.cells #[S f, S m, .slice A ps.length c] 48)).heap.size (w.alloc (.cells #[S f, S m, .slice A ps.length c] 48)) w1 := by rw [hw1]; exact Below.refl _ _
  rw [← hw1]
  have tc : ∀ o, w1.cell? ⟨w.heap.size, o, none⟩ = #[S f, S m, .slice A ps.length c][o]? := (fun o => (hb.cell (p := ⟨w.heap.size, o, none⟩) (by simp <;> omega)).trans (by simp [go_sem])); have tf : ∀ o, w1.frozen? ⟨w.heap.size, o, none⟩ = false := (fun o => (hb.frozen (p := ⟨w.heap.size, o, none⟩) (by simp <;> omega)).trans (by simp [go_sem])); have tz : w.heap.size < w1.heap.size := (by have := hb.size; (try simp at this); omega); have ty := tz
  have hW : Below w.heap.size w w1 := by (repeat (first | exact Below.refl _ _ | assumption | refine Below.drew ?_ | refine up_drewN ?_ _ | refine up_alloc ?_ _ | refine up_set ?_ _ _ (by first | exact Nat.le_refl _ | (simp; done) | (simp; omega) | omega) | refine up_trans ?_ (by assumption)))
  clear hb hw1 T
  go_wp2_with fail
  go_loop [3, 21] (fun j i => ∃ k : Nat, k ≤ m.length ∧ i = .int .i64 k ∧ Hid ((m.take k).all okC = true)) (fun _ i => m.length - (intOf i).toNat)
  case atStart => exact ⟨0, Nat.zero_le _, rfl, Lib.hid (by simp)⟩
  case round =>
    obtain ⟨k, hk, rfl, hall⟩ := hrel
    by_cases hlt : k < m.length
    · have i1 : (0 : Int) ≤ (k : Int) := by omega
      have i2 : (k : Int) < (m.length : Int) := by omega
      rcases hc : okC m[k] with _ | _
      · have hfin := Lib.hid (all_false_of m k hlt hc)
        have hc' : okB ((m[k].toNat : Nat) : Int) = false := hc
        clear hc
        go_wp2_with fail
        refine (isByte_any _ _).mono ?_
        rintro e w2 ⟨rfl, rfl⟩
        rw [hc']
        go_wp2_with fail
        go_ret
        exact ⟨ret_bool (by rw [hfin.out]; rfl), hW⟩
      · have hfin := Lib.hid (all_take_succ m k hlt)
        have hc' : okB ((m[k].toNat : Nat) : Int) = true := hc
        have hc2 := Lib.hid hc
        clear hc
        go_wp2_with fail
        refine (isByte_any _ _).mono ?_
        rintro e w2 ⟨rfl, rfl⟩
        rw [hc']
        go_wp2_with fail
        go_round
        case rel => exact ⟨k + 1, by omega, by go_num, Lib.hid (by rw [hfin.out, hall.out, hc2.out]; rfl)⟩
        case measure => simp [intOf]; omega
    · obtain rfl : k = m.length := by omega
      have hma := Lib.hid (show m.all okC = true by have := hall.out; rwa [List.take_length] at this)
      clear hall hlt
      go_wp2_with fail
      go_loopw [4, 6, 7, 34] (fun al p r i wr => ∃ (k : Nat) (tt : Int), k ≤ ps.length ∧ i = .int .i64 k ∧ al = .int .i64 tt ∧ 0 ≤ tt ∧ tt ≤ 120 ∧ Hid (psOk f m 0 ps = psOk f m tt (ps.drop k)) ∧ Below w1.heap.size w1 wr) (fun _ _ _ i _ => ps.length - (intOf i).toNat)
      case atStart => exact ⟨0, 0, Nat.zero_le _, rfl, rfl, by omega, by omega, Lib.hid rfl, Below.refl _ _⟩
      case round =>
        obtain ⟨k, tt, hk, rfl, rfl, ht0, ht1, hps, hWr⟩ := hrel
        have tc2 := up_c hWr tz tc
        have tf2 := up_f hWr tz tf
        have swr := hWr.size
        have hW2 := up_trans hW hWr
        by_cases hlt : k < ps.length
        · have i1 : (0 : Int) ≤ (k : Int) := by omega
          have i2 : (k : Int) < (ps.length : Int) := by omega
          have hd := Lib.hid (psOk_drop f m tt ps k hlt)
          obtain ⟨b, o, rfl, hbz, c0, c1, c2⟩ := rdP_cells (H.out.up hW2) hlt
          obtain ⟨x, hx⟩ : ∃ x, x = ps[k] := ⟨_, rfl⟩
          rw [← hx] at c0 c1 c2 hd
          clear hx
          obtain ⟨ad, st, sz⟩ := x
          simp only at c0 c1 c2 hd
          have tz2 : w.heap.size < wr.heap.size := by omega
          have tn1 : ¬ wr.heap.size = w.heap.size := by omega
          have tn2 : ¬ w.heap.size = wr.heap.size := by omega
          rcases ad with _ | _
          · have hr0 : (0 : Int) ≤ (f.length : Int) := by omega
            have hpk := Lib.hid (show pcOk f m ⟨false, st, sz⟩ = (inB st 0 (f.length : Int) && inB sz 1 ((f.length : Int) - st)) from rfl)
            rcases hi1 : inB st 0 (f.length : Int) with _ | _
            · have hfin := Lib.hid (show psOk f m 0 ps = false by rw [hps.out, hd.out, hpk.out, hi1]; rfl)
              go_wp2_with fail
              refine (in_any _ _ _ _).mono ?_
              rintro e w2 ⟨rfl, rfl⟩
              rw [hi1]
              go_wp2_with fail
              go_ret
              exact ⟨ret_bool (by rw [hfin.out, Bool.and_false]), by (repeat (first | exact Below.refl _ _ | assumption | refine Below.drew ?_ | refine up_drewN ?_ _ | refine up_alloc ?_ _ | refine up_set ?_ _ _ (by first | exact Nat.le_refl _ | (simp; done) | (simp; omega) | omega) | refine up_trans ?_ (by assumption)))⟩
            · have b1 := inB_iff.1 hi1
              have hsub : IntKind.i64.wrap ((f.length : Int) - st) = (f.length : Int) - st := IntWalk.i64_in _ (by omega)
              rcases hi2 : inB sz 1 ((f.length : Int) - st) with _ | _
              · have hfin := Lib.hid (show psOk f m 0 ps = false by rw [hps.out, hd.out, hpk.out, hi1, hi2]; rfl)
                go_wp2_with fail
                refine (in_any _ _ _ _).mono ?_
                rintro e w2 ⟨rfl, rfl⟩
                rw [hi1]
                go_wp2_with fail
                refine (in_any _ _ _ _).mono ?_
                rintro e w2 ⟨rfl, rfl⟩
                rw [hi2]
                go_wp2_with fail
                go_ret
                exact ⟨ret_bool (by rw [hfin.out, Bool.and_false]), by (repeat (first | exact Below.refl _ _ | assumption | refine Below.drew ?_ | refine up_drewN ?_ _ | refine up_alloc ?_ _ | refine up_set ?_ _ _ (by first | exact Nat.le_refl _ | (simp; done) | (simp; omega) | omega) | refine up_trans ?_ (by assumption)))⟩
              · have b2 := inB_iff.1 hi2
                have hadd : IntKind.i64.wrap (tt + sz) = tt + sz := IntWalk.i64_in _ (by omega)
                by_cases h120 : 120 < tt + sz
                · have hfin := Lib.hid (show psOk f m 0 ps = false by rw [hps.out, hd.out, decide_eq_false (by omega)]; simp)
                  go_wp2_with fail
                  refine (in_any _ _ _ _).mono ?_
                  rintro e w2 ⟨rfl, rfl⟩
                  rw [hi1]
                  go_wp2_with fail
                  refine (in_any _ _ _ _).mono ?_
                  rintro e w2 ⟨rfl, rfl⟩
                  rw [hi2]
                  go_wp2_with fail
                  go_ret
                  exact ⟨ret_bool (by rw [hfin.out, Bool.and_false]), by (repeat (first | exact Below.refl _ _ | assumption | refine Below.drew ?_ | refine up_drewN ?_ _ | refine up_alloc ?_ _ | refine up_set ?_ _ _ (by first | exact Nat.le_refl _ | (simp; done) | (simp; omega) | omega) | refine up_trans ?_ (by assumption)))⟩
                · have hnx := Lib.hid (show psOk f m 0 ps = psOk f m (tt + sz) (ps.drop (k + 1)) by rw [hps.out, hd.out, hpk.out, hi1, hi2, decide_eq_true (by omega)]; rfl)
                  go_wp2_with fail
                  refine (in_any _ _ _ _).mono ?_
                  rintro e w2 ⟨rfl, rfl⟩
                  rw [hi1]
                  go_wp2_with fail
                  refine (in_any _ _ _ _).mono ?_
                  rintro e w2 ⟨rfl, rfl⟩
                  rw [hi2]
                  go_wp2_with fail
                  go_roundw
                  case rel => exact ⟨k + 1, tt + sz, by omega, by go_num, rfl, by omega, by omega, hnx, by (repeat (first | exact Below.refl _ _ | assumption | refine Below.drew ?_ | refine up_drewN ?_ _ | refine up_alloc ?_ _ | refine up_set ?_ _ _ (by first | exact Nat.le_refl _ | (simp; done) | (simp; omega) | omega) | refine up_trans ?_ (by assumption)))⟩
                  case measure => simp [intOf]; omega
          · have hr0 : (0 : Int) ≤ (m.length : Int) := by omega
            have hpk := Lib.hid (show pcOk f m ⟨true, st, sz⟩ = (inB st 0 (m.length : Int) && inB sz 1 ((m.length : Int) - st)) from rfl)
            rcases hi1 : inB st 0 (m.length : Int) with _ | _
            · have hfin := Lib.hid (show psOk f m 0 ps = false by rw [hps.out, hd.out, hpk.out, hi1]; rfl)
              go_wp2_with fail
              refine (in_any _ _ _ _).mono ?_
              rintro e w2 ⟨rfl, rfl⟩
              rw [hi1]
              go_wp2_with fail
              go_ret
              exact ⟨ret_bool (by rw [hfin.out, Bool.and_false]), by (repeat (first | exact Below.refl _ _ | assumption | refine Below.drew ?_ | refine up_drewN ?_ _ | refine up_alloc ?_ _ | refine up_set ?_ _ _ (by first | exact Nat.le_refl _ | (simp; done) | (simp; omega) | omega) | refine up_trans ?_ (by assumption)))⟩
            · have b1 := inB_iff.1 hi1
              have hsub : IntKind.i64.wrap ((m.length : Int) - st) = (m.length : Int) - st := IntWalk.i64_in _ (by omega)
              rcases hi2 : inB sz 1 ((m.length : Int) - st) with _ | _
              · have hfin := Lib.hid (show psOk f m 0 ps = false by rw [hps.out, hd.out, hpk.out, hi1, hi2]; rfl)
                go_wp2_with fail
                refine (in_any _ _ _ _).mono ?_
                rintro e w2 ⟨rfl, rfl⟩
                rw [hi1]
                go_wp2_with fail
                refine (in_any _ _ _ _).mono ?_
                rintro e w2 ⟨rfl, rfl⟩
                rw [hi2]
                go_wp2_with fail
                go_ret
                exact ⟨ret_bool (by rw [hfin.out, Bool.and_false]), by (repeat (first | exact Below.refl _ _ | assumption | refine Below.drew ?_ | refine up_drewN ?_ _ | refine up_alloc ?_ _ | refine up_set ?_ _ _ (by first | exact Nat.le_refl _ | (simp; done) | (simp; omega) | omega) | refine up_trans ?_ (by assumption)))⟩
              · have b2 := inB_iff.1 hi2
                have hadd : IntKind.i64.wrap (tt + sz) = tt + sz := IntWalk.i64_in _ (by omega)
                by_cases h120 : 120 < tt + sz
                · have hfin := Lib.hid (show psOk f m 0 ps = false by rw [hps.out, hd.out, decide_eq_false (by omega)]; simp)
                  go_wp2_with fail
                  refine (in_any _ _ _ _).mono ?_
                  rintro e w2 ⟨rfl, rfl⟩
                  rw [hi1]
                  go_wp2_with fail
                  refine (in_any _ _ _ _).mono ?_
                  rintro e w2 ⟨rfl, rfl⟩
                  rw [hi2]
                  go_wp2_with fail
                  go_ret
                  exact ⟨ret_bool (by rw [hfin.out, Bool.and_false]), by (repeat (first | exact Below.refl _ _ | assumption | refine Below.drew ?_ | refine up_drewN ?_ _ | refine up_alloc ?_ _ | refine up_set ?_ _ _ (by first | exact Nat.le_refl _ | (simp; done) | (simp; omega) | omega) | refine up_trans ?_ (by assumption)))⟩
                · have hnx := Lib.hid (show psOk f m 0 ps = psOk f m (tt + sz) (ps.drop (k + 1)) by rw [hps.out, hd.out, hpk.out, hi1, hi2, decide_eq_true (by omega)]; rfl)
                  go_wp2_with fail
                  refine (in_any _ _ _ _).mono ?_
                  rintro e w2 ⟨rfl, rfl⟩
                  rw [hi1]
                  go_wp2_with fail
                  refine (in_any _ _ _ _).mono ?_
                  rintro e w2 ⟨rfl, rfl⟩
                  rw [hi2]
                  go_wp2_with fail
                  go_roundw
                  case rel => exact ⟨k + 1, tt + sz, by omega, by go_num, rfl, by omega, by omega, hnx, by (repeat (first | exact Below.refl _ _ | assumption | refine Below.drew ?_ | refine up_drewN ?_ _ | refine up_alloc ?_ _ | refine up_set ?_ _ _ (by first | exact Nat.le_refl _ | (simp; done) | (simp; omega) | omega) | refine up_trans ?_ (by assumption)))⟩
                  case measure => simp [intOf]; omega
        · obtain rfl : k = ps.length := by omega
          have hfin := Lib.hid (show psOk f m 0 ps = true by rw [hps.out, List.drop_length]; rfl)
          go_wp2_with fail
          go_ret
          exact ⟨ret_bool (by rw [hma.out, hfin.out]; rfl), hW2⟩

end Go.Proofs.Ytlejfmngpbcdhaa
