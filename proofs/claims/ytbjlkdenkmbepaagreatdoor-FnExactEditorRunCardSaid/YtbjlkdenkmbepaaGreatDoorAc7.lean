/- What is proved here: contracts of DiffChange in the reference. No condition. -/
import Derived.Test.YtbjlkdenkmbepaaGreatDoorAc4
import Derived.Test.YtbjlkdenkmbepaaGreatDoorEverL
import Derived.BigQuiet
namespace Go.Proofs.YtbjlkdenkmbepaaGreatDoor
open Go.RowKit
set_option linter.unusedVariables false

theorem u8_eq {a b : UInt8} (h : a = b) : (((a.toNat : Nat) : Int) == ((b.toNat : Nat) : Int)) = true := by rw [h]; simp
theorem u8_ne {a b : UInt8} (h : a ≠ b) : (((a.toNat : Nat) : Int) == ((b.toNat : Nat) : Int)) = false := by
  rw [beq_eq_false_iff_ne]
  intro e
  exact h (UInt8.toNat_inj.1 (by omega))
set_option maxRecDepth 100000 in
set_option maxHeartbeats 4000000 in
theorem specDiffChange_any (a b : List UInt8) (w : World) (ha : tv a = true) (hb : tv b = true) :
    Calls Tryz.prog 61 #[S a, S b] w fun e w' => e = .returned (chAgg (dfC a b)) ∧ Below w.heap.size w w' := by
  have la := tv_len ha
  have lb := tv_len hb
  have T := Lib.hid (fun w => specTextValid_any a w (by unfold maxLen; omega))
  have U := Lib.hid (fun w => specTextValid_any b w (by unfold maxLen; omega))
  rw [ha] at T
  rw [hb] at U
  clear ha hb
  go_enter Tryz.func61, Tryz.ntmps61
  go_wp2_with fail
  refine (T.out _).mono ?_
  rintro e w1 ⟨rfl, rfl⟩
  go_wp2_with fail
  refine (U.out _).mono ?_
  rintro e w1 ⟨rfl, rfl⟩
  clear T U
  go_wp2_with fail
  have HI0 := Lib.hid (new_is w #[.int .i64 0, .int .i64 0, S []] 78)
  have HB0 := Lib.hid (up_alloc (Below.refl w.heap.size w) (.cells #[.int .i64 0, .int .i64 0, S []] 78))
  go_loopw [5] (fun i wr => ∃ k : Nat, k ≤ a.length ∧ k ≤ b.length ∧ i = .int .i64 k ∧ Hid (cpre a b = k + cpre (a.drop k) (b.drop k)) ∧ Hid (Is wr w.heap.size #[.int .i64 0, .int .i64 0, S []]) ∧ Hid (Below w.heap.size w wr)) (fun i _ => a.length - (intOf i).toNat)
  case atStart => exact ⟨0, Nat.zero_le _, Nat.zero_le _, rfl, Lib.hid (by simp), HI0, HB0⟩
  case round =>
    obtain ⟨k, hka, hkb, rfl, HC, HIr, HBr⟩ := hrel
    clear HI0 HB0
    have p0 : (0 : Int) ≤ (k : Int) := by omega
    by_cases hl1 : k < a.length
    · have p1 : (k : Int) < (a.length : Int) := by omega
      by_cases hl2 : k < b.length
      · have p2 : (k : Int) < (b.length : Int) := by omega
        by_cases hc : a[k] = b[k]
        · have HS := Lib.hid (cpre_step hl1 hl2 hc)
          have hc' := u8_eq hc
          clear hc
          go_wp2_with fail
          go_quiet (fail)
          have HB := Lib.hid (show Below w.heap.size w (wr.drewN nq) from up_drewN HBr.out nq)
          have HI := Lib.hid (show Is (wr.drewN nq) w.heap.size #[.int .i64 0, .int .i64 0, S []] from ⟨HIr.out.1, HIr.out.2⟩)
          go_wp2_with fail
          go_roundw
          case rel => exact ⟨k + 1, by omega, by omega, by go_num, Lib.hid (by rw [HC.out, HS.out]; omega), HI, HB⟩
          case measure => simp [intOf]; omega
        · have HK := Lib.hid (show cpre a b = k by rw [HC.out, cpre_stop hl1 hl2 hc]; rfl)
          have hc' := u8_ne hc
          clear hc
          go_wp2_with fail
          go_quiet (fail)
          have HB := Lib.hid (show Below w.heap.size w (wr.drewN nq) from up_drewN HBr.out nq)
          have HI := Lib.hid (show Is (wr.drewN nq) w.heap.size #[.int .i64 0, .int .i64 0, S []] from ⟨HIr.out.1, HIr.out.2⟩)
          clear hc' HC HIr HBr
          go_wp2_with fail
          go_loopw [6] (fun i wr => ∃ m : Nat, m ≤ a.length - k ∧ m ≤ b.length - k ∧ i = .int .i64 m ∧ Hid (csuf a b = m + cpre ((bk a k).drop m) ((bk b k).drop m)) ∧ Hid (Is wr w.heap.size #[.int .i64 0, .int .i64 0, S []]) ∧ Hid (Below w.heap.size w wr)) (fun i _ => a.length - (intOf i).toNat)
          case atStart => exact ⟨0, Nat.zero_le _, Nat.zero_le _, rfl, Lib.hid (by rw [csuf, HK.out, Nat.zero_add, List.drop_zero, List.drop_zero]), HI, HB⟩
          case round =>
            obtain ⟨m, hma, hmb, rfl, HM, HIr, HBr⟩ := hrel
            clear HI HB
            have s1 : IntKind.i64.wrap ((a.length : Int) - (k : Int)) = (a.length : Int) - (k : Int) := by rw [IntWalk.i64_in _ (by omega)]
            have s2 : IntKind.i64.wrap ((b.length : Int) - (k : Int)) = (b.length : Int) - (k : Int) := by rw [IntWalk.i64_in _ (by omega)]
            by_cases hla : m < a.length - k
            · have q1 : (m : Int) < (a.length : Int) - (k : Int) := by omega
              by_cases hlb : m < b.length - k
              · skip
                obtain ⟨x, hx⟩ : ∃ x, x = a.length - 1 - m := ⟨_, rfl⟩
                obtain ⟨y, hy⟩ : ∃ y, y = b.length - 1 - m := ⟨_, rfl⟩
                have hxl : x < a.length := by omega
                have hyl : y < b.length := by omega
                have q2 : (m : Int) < (b.length : Int) - (k : Int) := by omega
                have s3 : IntKind.i64.wrap ((a.length : Int) - 1) = (a.length : Int) - 1 := by rw [IntWalk.i64_in _ (by omega)]
                have s4 : IntKind.i64.wrap ((b.length : Int) - 1) = (b.length : Int) - 1 := by rw [IntWalk.i64_in _ (by omega)]
                have s5 : IntKind.i64.wrap ((a.length : Int) - 1 - (m : Int)) = (x : Int) := by rw [IntWalk.i64_in _ (by omega)]; omega
                have s6 : IntKind.i64.wrap ((b.length : Int) - 1 - (m : Int)) = (y : Int) := by rw [IntWalk.i64_in _ (by omega)]; omega
                have x0 : (0 : Int) ≤ (x : Int) := by omega
                have y0 : (0 : Int) ≤ (y : Int) := by omega
                have x1 : (x : Int) < (a.length : Int) := by omega
                have y1 : (y : Int) < (b.length : Int) := by omega
                have e1 : (bk a k)[m]'(by rw [bk_len]; omega) = a[x] := by rw [bk_at _ (by omega)]; congr 1; exact hx.symm
                have e2 : (bk b k)[m]'(by rw [bk_len]; omega) = b[y] := by rw [bk_at _ (by omega)]; congr 1; exact hy.symm
                by_cases hc : a[x] = b[y]
                · have HS := Lib.hid (cpre_step (a := bk a k) (b := bk b k) (k := m) (by rw [bk_len]; omega) (by rw [bk_len]; omega) (by rw [e1, e2, hc]))
                  have hc' := u8_eq hc
                  clear hc e1 e2 hx hy
                  go_wp2_with fail
                  go_quiet (fail)
                  have HB := Lib.hid (show Below w.heap.size w (wr.drewN nq) from up_drewN HBr.out nq)
                  have HI := Lib.hid (show Is (wr.drewN nq) w.heap.size #[.int .i64 0, .int .i64 0, S []] from ⟨HIr.out.1, HIr.out.2⟩)
                  go_wp2_with fail
                  go_roundw
                  case rel => exact ⟨m + 1, by omega, by omega, by go_num, Lib.hid (by rw [HM.out, HS.out]; omega), HI, HB⟩
                  case measure => simp [intOf]; omega
                · have HS := Lib.hid (show csuf a b = m by rw [HM.out, cpre_stop (a := bk a k) (b := bk b k) (k := m) (by rw [bk_len]; omega) (by rw [bk_len]; omega) (by rw [e1, e2]; exact hc)]; rfl)
                  have hc' := u8_ne hc
                  clear hc e1 e2 hx hy
                  go_wp2_with fail
                  go_quiet (fail)
                  have HB := Lib.hid (show Below w.heap.size w (wr.drewN nq) from up_drewN HBr.out nq)
                  have HI := Lib.hid (show Is (wr.drewN nq) w.heap.size #[.int .i64 0, .int .i64 0, S []] from ⟨HIr.out.1, HIr.out.2⟩)
                  have HD := Lib.hid (show dfC a b = ⟨(k : Int), (a.length : Int) - m - k, (b.take (b.length - m)).drop k⟩ by unfold dfC; rw [HS.out, HK.out])
                  have hs1 := csuf_le a b
                  rw [HS.out, HK.out] at hs1
                  obtain ⟨z, hz⟩ : ∃ z, z = b.length - m := ⟨_, rfl⟩
                  have z1 : (b.length : Int) - (m : Int) = (z : Int) := by omega
                  have z2 : (k : Int) ≤ (z : Int) := by omega
                  have z3 : (z : Int) ≤ (b.length : Int) := by omega
                  rw [← hz] at HD
                  have xc := HI.out.1
                  have xf := HI.out.2
                  clear hz HS HK
                  try clear r1
                  try clear r2
                  try clear r4
                  try clear hla
                  try clear hlb
                  try clear q1
                  try clear q2
                  try clear hab
                  try clear hab2
                  go_wp2_with fail
                  rw [HD.out]
                  refine bodyPost_ret (v := chAgg ⟨(k : Int), (a.length : Int) - m - k, (b.take z).drop k⟩) (by simp [results, Tryz.results61, go_sem, xc, chAgg]; try omega) rfl ⟨rfl, ?_⟩
                  have hQ := HB.out
                  (repeat refine up_set ?_ _ _ (by first | exact Nat.le_refl _ | (simp; done) | (simp; omega) | omega))
                  exact hQ
              · skip
                have HS := Lib.hid (show csuf a b = m by rw [HM.out, cpre_end (by rw [bk_len, bk_len]; omega)]; rfl)
                have r1 : decide ((m : Int) < (b.length : Int) - (k : Int)) = false := decide_eq_false (by omega)
                have r2 : ¬ (m : Int) < (b.length : Int) - (k : Int) := by omega
                go_wp2_with fail
                go_quiet (fail)
                have HB := Lib.hid (show Below w.heap.size w (wr.drewN nq) from up_drewN HBr.out nq)
                have HI := Lib.hid (show Is (wr.drewN nq) w.heap.size #[.int .i64 0, .int .i64 0, S []] from ⟨HIr.out.1, HIr.out.2⟩)
                have HD := Lib.hid (show dfC a b = ⟨(k : Int), (a.length : Int) - m - k, (b.take (b.length - m)).drop k⟩ by unfold dfC; rw [HS.out, HK.out])
                have hs1 := csuf_le a b
                rw [HS.out, HK.out] at hs1
                obtain ⟨z, hz⟩ : ∃ z, z = b.length - m := ⟨_, rfl⟩
                have z1 : (b.length : Int) - (m : Int) = (z : Int) := by omega
                have z2 : (k : Int) ≤ (z : Int) := by omega
                have z3 : (z : Int) ≤ (b.length : Int) := by omega
                rw [← hz] at HD
                have xc := HI.out.1
                have xf := HI.out.2
                clear hz HS HK
                try clear r1
                try clear r2
                try clear r4
                try clear hla
                try clear hlb
                try clear q1
                try clear q2
                try clear hab
                try clear hab2
                go_wp2_with fail
                rw [HD.out]
                refine bodyPost_ret (v := chAgg ⟨(k : Int), (a.length : Int) - m - k, (b.take z).drop k⟩) (by simp [results, Tryz.results61, go_sem, xc, chAgg]; try omega) rfl ⟨rfl, ?_⟩
                have hQ := HB.out
                (repeat refine up_set ?_ _ _ (by first | exact Nat.le_refl _ | (simp; done) | (simp; omega) | omega))
                exact hQ
            · skip
              have HS := Lib.hid (show csuf a b = m by rw [HM.out, cpre_end (by rw [bk_len, bk_len]; omega)]; rfl)
              have r1 : decide ((m : Int) < (a.length : Int) - (k : Int)) = false := decide_eq_false (by omega)
              have r2 : ¬ (m : Int) < (a.length : Int) - (k : Int) := by omega
              go_wp2_with fail
              go_quiet (fail)
              have HB := Lib.hid (show Below w.heap.size w (wr.drewN nq) from up_drewN HBr.out nq)
              have HI := Lib.hid (show Is (wr.drewN nq) w.heap.size #[.int .i64 0, .int .i64 0, S []] from ⟨HIr.out.1, HIr.out.2⟩)
              have HD := Lib.hid (show dfC a b = ⟨(k : Int), (a.length : Int) - m - k, (b.take (b.length - m)).drop k⟩ by unfold dfC; rw [HS.out, HK.out])
              have hs1 := csuf_le a b
              rw [HS.out, HK.out] at hs1
              obtain ⟨z, hz⟩ : ∃ z, z = b.length - m := ⟨_, rfl⟩
              have z1 : (b.length : Int) - (m : Int) = (z : Int) := by omega
              have z2 : (k : Int) ≤ (z : Int) := by omega
              have z3 : (z : Int) ≤ (b.length : Int) := by omega
              rw [← hz] at HD
              have xc := HI.out.1
              have xf := HI.out.2
              clear hz HS HK
              try clear r1
              try clear r2
              try clear r4
              try clear hla
              try clear hlb
              try clear q1
              try clear q2
              try clear hab
              try clear hab2
              go_wp2_with fail
              rw [HD.out]
              refine bodyPost_ret (v := chAgg ⟨(k : Int), (a.length : Int) - m - k, (b.take z).drop k⟩) (by simp [results, Tryz.results61, go_sem, xc, chAgg]; try omega) rfl ⟨rfl, ?_⟩
              have hQ := HB.out
              (repeat refine up_set ?_ _ _ (by first | exact Nat.le_refl _ | (simp; done) | (simp; omega) | omega))
              exact hQ
      · skip
        have HK := Lib.hid (show cpre a b = k by rw [HC.out, cpre_end (by omega)]; rfl)
        have p3 : decide ((k : Int) < (b.length : Int)) = false := decide_eq_false (by omega)
        have p5 : decide (k < b.length) = false := decide_eq_false (by omega)
        go_wp2_with fail
        go_quiet (fail)
        have HB := Lib.hid (show Below w.heap.size w (wr.drewN nq) from up_drewN HBr.out nq)
        have HI := Lib.hid (show Is (wr.drewN nq) w.heap.size #[.int .i64 0, .int .i64 0, S []] from ⟨HIr.out.1, HIr.out.2⟩)
        clear p3 p5 hl2 HC HIr HBr
        go_wp2_with fail
        go_loopw [6] (fun i wr => ∃ m : Nat, m ≤ a.length - k ∧ m ≤ b.length - k ∧ i = .int .i64 m ∧ Hid (csuf a b = m + cpre ((bk a k).drop m) ((bk b k).drop m)) ∧ Hid (Is wr w.heap.size #[.int .i64 0, .int .i64 0, S []]) ∧ Hid (Below w.heap.size w wr)) (fun i _ => a.length - (intOf i).toNat)
        case atStart => exact ⟨0, Nat.zero_le _, Nat.zero_le _, rfl, Lib.hid (by rw [csuf, HK.out, Nat.zero_add, List.drop_zero, List.drop_zero]), HI, HB⟩
        case round =>
          obtain ⟨m, hma, hmb, rfl, HM, HIr, HBr⟩ := hrel
          clear HI HB
          have s1 : IntKind.i64.wrap ((a.length : Int) - (k : Int)) = (a.length : Int) - (k : Int) := by rw [IntWalk.i64_in _ (by omega)]
          have s2 : IntKind.i64.wrap ((b.length : Int) - (k : Int)) = (b.length : Int) - (k : Int) := by rw [IntWalk.i64_in _ (by omega)]
          by_cases hla : m < a.length - k
          · have q1 : (m : Int) < (a.length : Int) - (k : Int) := by omega
            by_cases hlb : m < b.length - k
            · skip
              obtain ⟨x, hx⟩ : ∃ x, x = a.length - 1 - m := ⟨_, rfl⟩
              obtain ⟨y, hy⟩ : ∃ y, y = b.length - 1 - m := ⟨_, rfl⟩
              have hxl : x < a.length := by omega
              have hyl : y < b.length := by omega
              have q2 : (m : Int) < (b.length : Int) - (k : Int) := by omega
              have s3 : IntKind.i64.wrap ((a.length : Int) - 1) = (a.length : Int) - 1 := by rw [IntWalk.i64_in _ (by omega)]
              have s4 : IntKind.i64.wrap ((b.length : Int) - 1) = (b.length : Int) - 1 := by rw [IntWalk.i64_in _ (by omega)]
              have s5 : IntKind.i64.wrap ((a.length : Int) - 1 - (m : Int)) = (x : Int) := by rw [IntWalk.i64_in _ (by omega)]; omega
              have s6 : IntKind.i64.wrap ((b.length : Int) - 1 - (m : Int)) = (y : Int) := by rw [IntWalk.i64_in _ (by omega)]; omega
              have x0 : (0 : Int) ≤ (x : Int) := by omega
              have y0 : (0 : Int) ≤ (y : Int) := by omega
              have x1 : (x : Int) < (a.length : Int) := by omega
              have y1 : (y : Int) < (b.length : Int) := by omega
              have e1 : (bk a k)[m]'(by rw [bk_len]; omega) = a[x] := by rw [bk_at _ (by omega)]; congr 1; exact hx.symm
              have e2 : (bk b k)[m]'(by rw [bk_len]; omega) = b[y] := by rw [bk_at _ (by omega)]; congr 1; exact hy.symm
              by_cases hc : a[x] = b[y]
              · have HS := Lib.hid (cpre_step (a := bk a k) (b := bk b k) (k := m) (by rw [bk_len]; omega) (by rw [bk_len]; omega) (by rw [e1, e2, hc]))
                have hc' := u8_eq hc
                clear hc e1 e2 hx hy
                go_wp2_with fail
                go_quiet (fail)
                have HB := Lib.hid (show Below w.heap.size w (wr.drewN nq) from up_drewN HBr.out nq)
                have HI := Lib.hid (show Is (wr.drewN nq) w.heap.size #[.int .i64 0, .int .i64 0, S []] from ⟨HIr.out.1, HIr.out.2⟩)
                go_wp2_with fail
                go_roundw
                case rel => exact ⟨m + 1, by omega, by omega, by go_num, Lib.hid (by rw [HM.out, HS.out]; omega), HI, HB⟩
                case measure => simp [intOf]; omega
              · have HS := Lib.hid (show csuf a b = m by rw [HM.out, cpre_stop (a := bk a k) (b := bk b k) (k := m) (by rw [bk_len]; omega) (by rw [bk_len]; omega) (by rw [e1, e2]; exact hc)]; rfl)
                have hc' := u8_ne hc
                clear hc e1 e2 hx hy
                go_wp2_with fail
                go_quiet (fail)
                have HB := Lib.hid (show Below w.heap.size w (wr.drewN nq) from up_drewN HBr.out nq)
                have HI := Lib.hid (show Is (wr.drewN nq) w.heap.size #[.int .i64 0, .int .i64 0, S []] from ⟨HIr.out.1, HIr.out.2⟩)
                have HD := Lib.hid (show dfC a b = ⟨(k : Int), (a.length : Int) - m - k, (b.take (b.length - m)).drop k⟩ by unfold dfC; rw [HS.out, HK.out])
                have hs1 := csuf_le a b
                rw [HS.out, HK.out] at hs1
                obtain ⟨z, hz⟩ : ∃ z, z = b.length - m := ⟨_, rfl⟩
                have z1 : (b.length : Int) - (m : Int) = (z : Int) := by omega
                have z2 : (k : Int) ≤ (z : Int) := by omega
                have z3 : (z : Int) ≤ (b.length : Int) := by omega
                rw [← hz] at HD
                have xc := HI.out.1
                have xf := HI.out.2
                clear hz HS HK
                try clear r1
                try clear r2
                try clear r4
                try clear hla
                try clear hlb
                try clear q1
                try clear q2
                try clear hab
                try clear hab2
                go_wp2_with fail
                rw [HD.out]
                refine bodyPost_ret (v := chAgg ⟨(k : Int), (a.length : Int) - m - k, (b.take z).drop k⟩) (by simp [results, Tryz.results61, go_sem, xc, chAgg]; try omega) rfl ⟨rfl, ?_⟩
                have hQ := HB.out
                (repeat refine up_set ?_ _ _ (by first | exact Nat.le_refl _ | (simp; done) | (simp; omega) | omega))
                exact hQ
            · skip
              have HS := Lib.hid (show csuf a b = m by rw [HM.out, cpre_end (by rw [bk_len, bk_len]; omega)]; rfl)
              have r1 : decide ((m : Int) < (b.length : Int) - (k : Int)) = false := decide_eq_false (by omega)
              have r2 : ¬ (m : Int) < (b.length : Int) - (k : Int) := by omega
              go_wp2_with fail
              go_quiet (fail)
              have HB := Lib.hid (show Below w.heap.size w (wr.drewN nq) from up_drewN HBr.out nq)
              have HI := Lib.hid (show Is (wr.drewN nq) w.heap.size #[.int .i64 0, .int .i64 0, S []] from ⟨HIr.out.1, HIr.out.2⟩)
              have HD := Lib.hid (show dfC a b = ⟨(k : Int), (a.length : Int) - m - k, (b.take (b.length - m)).drop k⟩ by unfold dfC; rw [HS.out, HK.out])
              have hs1 := csuf_le a b
              rw [HS.out, HK.out] at hs1
              obtain ⟨z, hz⟩ : ∃ z, z = b.length - m := ⟨_, rfl⟩
              have z1 : (b.length : Int) - (m : Int) = (z : Int) := by omega
              have z2 : (k : Int) ≤ (z : Int) := by omega
              have z3 : (z : Int) ≤ (b.length : Int) := by omega
              rw [← hz] at HD
              have xc := HI.out.1
              have xf := HI.out.2
              clear hz HS HK
              try clear r1
              try clear r2
              try clear r4
              try clear hla
              try clear hlb
              try clear q1
              try clear q2
              try clear hab
              try clear hab2
              go_wp2_with fail
              rw [HD.out]
              refine bodyPost_ret (v := chAgg ⟨(k : Int), (a.length : Int) - m - k, (b.take z).drop k⟩) (by simp [results, Tryz.results61, go_sem, xc, chAgg]; try omega) rfl ⟨rfl, ?_⟩
              have hQ := HB.out
              (repeat refine up_set ?_ _ _ (by first | exact Nat.le_refl _ | (simp; done) | (simp; omega) | omega))
              exact hQ
          · skip
            have HS := Lib.hid (show csuf a b = m by rw [HM.out, cpre_end (by rw [bk_len, bk_len]; omega)]; rfl)
            have r1 : decide ((m : Int) < (a.length : Int) - (k : Int)) = false := decide_eq_false (by omega)
            have r2 : ¬ (m : Int) < (a.length : Int) - (k : Int) := by omega
            go_wp2_with fail
            go_quiet (fail)
            have HB := Lib.hid (show Below w.heap.size w (wr.drewN nq) from up_drewN HBr.out nq)
            have HI := Lib.hid (show Is (wr.drewN nq) w.heap.size #[.int .i64 0, .int .i64 0, S []] from ⟨HIr.out.1, HIr.out.2⟩)
            have HD := Lib.hid (show dfC a b = ⟨(k : Int), (a.length : Int) - m - k, (b.take (b.length - m)).drop k⟩ by unfold dfC; rw [HS.out, HK.out])
            have hs1 := csuf_le a b
            rw [HS.out, HK.out] at hs1
            obtain ⟨z, hz⟩ : ∃ z, z = b.length - m := ⟨_, rfl⟩
            have z1 : (b.length : Int) - (m : Int) = (z : Int) := by omega
            have z2 : (k : Int) ≤ (z : Int) := by omega
            have z3 : (z : Int) ≤ (b.length : Int) := by omega
            rw [← hz] at HD
            have xc := HI.out.1
            have xf := HI.out.2
            clear hz HS HK
            try clear r1
            try clear r2
            try clear r4
            try clear hla
            try clear hlb
            try clear q1
            try clear q2
            try clear hab
            try clear hab2
            go_wp2_with fail
            rw [HD.out]
            refine bodyPost_ret (v := chAgg ⟨(k : Int), (a.length : Int) - m - k, (b.take z).drop k⟩) (by simp [results, Tryz.results61, go_sem, xc, chAgg]; try omega) rfl ⟨rfl, ?_⟩
            have hQ := HB.out
            (repeat refine up_set ?_ _ _ (by first | exact Nat.le_refl _ | (simp; done) | (simp; omega) | omega))
            exact hQ
    · skip
      have HK := Lib.hid (show cpre a b = k by rw [HC.out, cpre_end (by omega)]; rfl)
      have p3 : decide ((k : Int) < (a.length : Int)) = false := decide_eq_false (by omega)
      have p5 : decide (k < a.length) = false := decide_eq_false (by omega)
      go_wp2_with fail
      go_quiet (fail)
      have HB := Lib.hid (show Below w.heap.size w (wr.drewN nq) from up_drewN HBr.out nq)
      have HI := Lib.hid (show Is (wr.drewN nq) w.heap.size #[.int .i64 0, .int .i64 0, S []] from ⟨HIr.out.1, HIr.out.2⟩)
      clear p3 p5 hl1 HC HIr HBr
      go_wp2_with fail
      go_loopw [6] (fun i wr => ∃ m : Nat, m ≤ a.length - k ∧ m ≤ b.length - k ∧ i = .int .i64 m ∧ Hid (csuf a b = m + cpre ((bk a k).drop m) ((bk b k).drop m)) ∧ Hid (Is wr w.heap.size #[.int .i64 0, .int .i64 0, S []]) ∧ Hid (Below w.heap.size w wr)) (fun i _ => a.length - (intOf i).toNat)
      case atStart => exact ⟨0, Nat.zero_le _, Nat.zero_le _, rfl, Lib.hid (by rw [csuf, HK.out, Nat.zero_add, List.drop_zero, List.drop_zero]), HI, HB⟩
      case round =>
        obtain ⟨m, hma, hmb, rfl, HM, HIr, HBr⟩ := hrel
        clear HI HB
        have s1 : IntKind.i64.wrap ((a.length : Int) - (k : Int)) = (a.length : Int) - (k : Int) := by rw [IntWalk.i64_in _ (by omega)]
        have s2 : IntKind.i64.wrap ((b.length : Int) - (k : Int)) = (b.length : Int) - (k : Int) := by rw [IntWalk.i64_in _ (by omega)]
        by_cases hla : m < a.length - k
        · have q1 : (m : Int) < (a.length : Int) - (k : Int) := by omega
          by_cases hlb : m < b.length - k
          · skip
            obtain ⟨x, hx⟩ : ∃ x, x = a.length - 1 - m := ⟨_, rfl⟩
            obtain ⟨y, hy⟩ : ∃ y, y = b.length - 1 - m := ⟨_, rfl⟩
            have hxl : x < a.length := by omega
            have hyl : y < b.length := by omega
            have q2 : (m : Int) < (b.length : Int) - (k : Int) := by omega
            have s3 : IntKind.i64.wrap ((a.length : Int) - 1) = (a.length : Int) - 1 := by rw [IntWalk.i64_in _ (by omega)]
            have s4 : IntKind.i64.wrap ((b.length : Int) - 1) = (b.length : Int) - 1 := by rw [IntWalk.i64_in _ (by omega)]
            have s5 : IntKind.i64.wrap ((a.length : Int) - 1 - (m : Int)) = (x : Int) := by rw [IntWalk.i64_in _ (by omega)]; omega
            have s6 : IntKind.i64.wrap ((b.length : Int) - 1 - (m : Int)) = (y : Int) := by rw [IntWalk.i64_in _ (by omega)]; omega
            have x0 : (0 : Int) ≤ (x : Int) := by omega
            have y0 : (0 : Int) ≤ (y : Int) := by omega
            have x1 : (x : Int) < (a.length : Int) := by omega
            have y1 : (y : Int) < (b.length : Int) := by omega
            have e1 : (bk a k)[m]'(by rw [bk_len]; omega) = a[x] := by rw [bk_at _ (by omega)]; congr 1; exact hx.symm
            have e2 : (bk b k)[m]'(by rw [bk_len]; omega) = b[y] := by rw [bk_at _ (by omega)]; congr 1; exact hy.symm
            by_cases hc : a[x] = b[y]
            · have HS := Lib.hid (cpre_step (a := bk a k) (b := bk b k) (k := m) (by rw [bk_len]; omega) (by rw [bk_len]; omega) (by rw [e1, e2, hc]))
              have hc' := u8_eq hc
              clear hc e1 e2 hx hy
              go_wp2_with fail
              go_quiet (fail)
              have HB := Lib.hid (show Below w.heap.size w (wr.drewN nq) from up_drewN HBr.out nq)
              have HI := Lib.hid (show Is (wr.drewN nq) w.heap.size #[.int .i64 0, .int .i64 0, S []] from ⟨HIr.out.1, HIr.out.2⟩)
              go_wp2_with fail
              go_roundw
              case rel => exact ⟨m + 1, by omega, by omega, by go_num, Lib.hid (by rw [HM.out, HS.out]; omega), HI, HB⟩
              case measure => simp [intOf]; omega
            · have HS := Lib.hid (show csuf a b = m by rw [HM.out, cpre_stop (a := bk a k) (b := bk b k) (k := m) (by rw [bk_len]; omega) (by rw [bk_len]; omega) (by rw [e1, e2]; exact hc)]; rfl)
              have hc' := u8_ne hc
              clear hc e1 e2 hx hy
              go_wp2_with fail
              go_quiet (fail)
              have HB := Lib.hid (show Below w.heap.size w (wr.drewN nq) from up_drewN HBr.out nq)
              have HI := Lib.hid (show Is (wr.drewN nq) w.heap.size #[.int .i64 0, .int .i64 0, S []] from ⟨HIr.out.1, HIr.out.2⟩)
              have HD := Lib.hid (show dfC a b = ⟨(k : Int), (a.length : Int) - m - k, (b.take (b.length - m)).drop k⟩ by unfold dfC; rw [HS.out, HK.out])
              have hs1 := csuf_le a b
              rw [HS.out, HK.out] at hs1
              obtain ⟨z, hz⟩ : ∃ z, z = b.length - m := ⟨_, rfl⟩
              have z1 : (b.length : Int) - (m : Int) = (z : Int) := by omega
              have z2 : (k : Int) ≤ (z : Int) := by omega
              have z3 : (z : Int) ≤ (b.length : Int) := by omega
              rw [← hz] at HD
              have xc := HI.out.1
              have xf := HI.out.2
              clear hz HS HK
              try clear r1
              try clear r2
              try clear r4
              try clear hla
              try clear hlb
              try clear q1
              try clear q2
              try clear hab
              try clear hab2
              go_wp2_with fail
              rw [HD.out]
              refine bodyPost_ret (v := chAgg ⟨(k : Int), (a.length : Int) - m - k, (b.take z).drop k⟩) (by simp [results, Tryz.results61, go_sem, xc, chAgg]; try omega) rfl ⟨rfl, ?_⟩
              have hQ := HB.out
              (repeat refine up_set ?_ _ _ (by first | exact Nat.le_refl _ | (simp; done) | (simp; omega) | omega))
              exact hQ
          · skip
            have HS := Lib.hid (show csuf a b = m by rw [HM.out, cpre_end (by rw [bk_len, bk_len]; omega)]; rfl)
            have r1 : decide ((m : Int) < (b.length : Int) - (k : Int)) = false := decide_eq_false (by omega)
            have r2 : ¬ (m : Int) < (b.length : Int) - (k : Int) := by omega
            go_wp2_with fail
            go_quiet (fail)
            have HB := Lib.hid (show Below w.heap.size w (wr.drewN nq) from up_drewN HBr.out nq)
            have HI := Lib.hid (show Is (wr.drewN nq) w.heap.size #[.int .i64 0, .int .i64 0, S []] from ⟨HIr.out.1, HIr.out.2⟩)
            have HD := Lib.hid (show dfC a b = ⟨(k : Int), (a.length : Int) - m - k, (b.take (b.length - m)).drop k⟩ by unfold dfC; rw [HS.out, HK.out])
            have hs1 := csuf_le a b
            rw [HS.out, HK.out] at hs1
            obtain ⟨z, hz⟩ : ∃ z, z = b.length - m := ⟨_, rfl⟩
            have z1 : (b.length : Int) - (m : Int) = (z : Int) := by omega
            have z2 : (k : Int) ≤ (z : Int) := by omega
            have z3 : (z : Int) ≤ (b.length : Int) := by omega
            rw [← hz] at HD
            have xc := HI.out.1
            have xf := HI.out.2
            clear hz HS HK
            try clear r1
            try clear r2
            try clear r4
            try clear hla
            try clear hlb
            try clear q1
            try clear q2
            try clear hab
            try clear hab2
            go_wp2_with fail
            rw [HD.out]
            refine bodyPost_ret (v := chAgg ⟨(k : Int), (a.length : Int) - m - k, (b.take z).drop k⟩) (by simp [results, Tryz.results61, go_sem, xc, chAgg]; try omega) rfl ⟨rfl, ?_⟩
            have hQ := HB.out
            (repeat refine up_set ?_ _ _ (by first | exact Nat.le_refl _ | (simp; done) | (simp; omega) | omega))
            exact hQ
        · skip
          have HS := Lib.hid (show csuf a b = m by rw [HM.out, cpre_end (by rw [bk_len, bk_len]; omega)]; rfl)
          have r1 : decide ((m : Int) < (a.length : Int) - (k : Int)) = false := decide_eq_false (by omega)
          have r2 : ¬ (m : Int) < (a.length : Int) - (k : Int) := by omega
          go_wp2_with fail
          go_quiet (fail)
          have HB := Lib.hid (show Below w.heap.size w (wr.drewN nq) from up_drewN HBr.out nq)
          have HI := Lib.hid (show Is (wr.drewN nq) w.heap.size #[.int .i64 0, .int .i64 0, S []] from ⟨HIr.out.1, HIr.out.2⟩)
          have HD := Lib.hid (show dfC a b = ⟨(k : Int), (a.length : Int) - m - k, (b.take (b.length - m)).drop k⟩ by unfold dfC; rw [HS.out, HK.out])
          have hs1 := csuf_le a b
          rw [HS.out, HK.out] at hs1
          obtain ⟨z, hz⟩ : ∃ z, z = b.length - m := ⟨_, rfl⟩
          have z1 : (b.length : Int) - (m : Int) = (z : Int) := by omega
          have z2 : (k : Int) ≤ (z : Int) := by omega
          have z3 : (z : Int) ≤ (b.length : Int) := by omega
          rw [← hz] at HD
          have xc := HI.out.1
          have xf := HI.out.2
          clear hz HS HK
          try clear r1
          try clear r2
          try clear r4
          try clear hla
          try clear hlb
          try clear q1
          try clear q2
          try clear hab
          try clear hab2
          go_wp2_with fail
          rw [HD.out]
          refine bodyPost_ret (v := chAgg ⟨(k : Int), (a.length : Int) - m - k, (b.take z).drop k⟩) (by simp [results, Tryz.results61, go_sem, xc, chAgg]; try omega) rfl ⟨rfl, ?_⟩
          have hQ := HB.out
          (repeat refine up_set ?_ _ _ (by first | exact Nat.le_refl _ | (simp; done) | (simp; omega) | omega))
          exact hQ
end Go.Proofs.YtbjlkdenkmbepaaGreatDoor

namespace Go.Proofs.YtbjlkdenkmbepaaGreatDoor
open Go.RowKit
set_option linter.unusedVariables false

set_option maxRecDepth 100000 in
set_option maxHeartbeats 4000000 in
theorem implDiffChange_any (a b : List UInt8) (w : World) (ha : tv a = true) (hb : tv b = true) :
    Calls Tryz.prog 118 #[S a, S b] w fun e w' => e = .returned (chAgg (dfC a b)) ∧ Below w.heap.size w w' := by
  have la := tv_len ha
  have lb := tv_len hb
  have T := Lib.hid (fun w => implTextValid_any a w (by unfold maxLen; omega))
  have U := Lib.hid (fun w => implTextValid_any b w (by unfold maxLen; omega))
  rw [ha] at T
  rw [hb] at U
  clear ha hb
  by_cases hab : (b.length : Int) < (a.length : Int)
  · have hab2 : b.length < a.length := by omega
    go_enter Tryz.func118, Tryz.ntmps118
    go_wp2_with fail
    refine (T.out _).mono ?_
    rintro e w1 ⟨rfl, rfl⟩
    go_wp2_with fail
    refine (U.out _).mono ?_
    rintro e w1 ⟨rfl, rfl⟩
    clear T U
    go_wp2_with fail
    have HI0 := Lib.hid (new_is w #[.int .i64 0, .int .i64 0, S []] 78)
    have HB0 := Lib.hid (up_alloc (Below.refl w.heap.size w) (.cells #[.int .i64 0, .int .i64 0, S []] 78))
    go_loopw [5] (fun i wr => ∃ k : Nat, k ≤ a.length ∧ k ≤ b.length ∧ i = .int .i64 k ∧ Hid (cpre a b = k + cpre (a.drop k) (b.drop k)) ∧ Hid (Is wr w.heap.size #[.int .i64 0, .int .i64 0, S []]) ∧ Hid (Below w.heap.size w wr)) (fun i _ => a.length - (intOf i).toNat)
    case atStart => exact ⟨0, Nat.zero_le _, Nat.zero_le _, rfl, Lib.hid (by simp), HI0, HB0⟩
    case round =>
      obtain ⟨k, hka, hkb, rfl, HC, HIr, HBr⟩ := hrel
      clear HI0 HB0
      have p0 : (0 : Int) ≤ (k : Int) := by omega
      by_cases hl0 : k < b.length
      · have hl1 : k < a.length := by omega
        have hl2 : k < b.length := by omega
        have p1 : (k : Int) < (a.length : Int) := by omega
        have p2 : (k : Int) < (b.length : Int) := by omega
        by_cases hc : a[k] = b[k]
        · have HS := Lib.hid (cpre_step hl1 hl2 hc)
          have hc' := u8_eq hc
          clear hc
          go_wp2_with fail
          go_quiet (fail)
          have HB := Lib.hid (show Below w.heap.size w (wr.drewN nq) from up_drewN HBr.out nq)
          have HI := Lib.hid (show Is (wr.drewN nq) w.heap.size #[.int .i64 0, .int .i64 0, S []] from ⟨HIr.out.1, HIr.out.2⟩)
          go_wp2_with fail
          go_roundw
          case rel => exact ⟨k + 1, by omega, by omega, by go_num, Lib.hid (by rw [HC.out, HS.out]; omega), HI, HB⟩
          case measure => simp [intOf]; omega
        · have HK := Lib.hid (show cpre a b = k by rw [HC.out, cpre_stop hl1 hl2 hc]; rfl)
          have hc' := u8_ne hc
          clear hc
          go_wp2_with fail
          go_quiet (fail)
          have HB := Lib.hid (show Below w.heap.size w (wr.drewN nq) from up_drewN HBr.out nq)
          have HI := Lib.hid (show Is (wr.drewN nq) w.heap.size #[.int .i64 0, .int .i64 0, S []] from ⟨HIr.out.1, HIr.out.2⟩)
          clear hc' HC HIr HBr
          go_wp2_with fail
          go_loopw [6] (fun i wr => ∃ m : Nat, m ≤ a.length - k ∧ m ≤ b.length - k ∧ i = .int .i64 m ∧ Hid (csuf a b = m + cpre ((bk a k).drop m) ((bk b k).drop m)) ∧ Hid (Is wr w.heap.size #[.int .i64 0, .int .i64 0, S []]) ∧ Hid (Below w.heap.size w wr)) (fun i _ => a.length - (intOf i).toNat)
          case atStart => exact ⟨0, Nat.zero_le _, Nat.zero_le _, rfl, Lib.hid (by rw [csuf, HK.out, Nat.zero_add, List.drop_zero, List.drop_zero]), HI, HB⟩
          case round =>
            obtain ⟨m, hma, hmb, rfl, HM, HIr, HBr⟩ := hrel
            clear HI HB
            have s1 : IntKind.i64.wrap ((a.length : Int) - (k : Int)) = (a.length : Int) - (k : Int) := by rw [IntWalk.i64_in _ (by omega)]
            have s2 : IntKind.i64.wrap ((b.length : Int) - (k : Int)) = (b.length : Int) - (k : Int) := by rw [IntWalk.i64_in _ (by omega)]
            by_cases hla : m < b.length - k
            · have q1 : (m : Int) < (a.length : Int) - (k : Int) := by omega
              have hlb : m < b.length - k := by omega
              obtain ⟨x, hx⟩ : ∃ x, x = a.length - 1 - m := ⟨_, rfl⟩
              obtain ⟨y, hy⟩ : ∃ y, y = b.length - 1 - m := ⟨_, rfl⟩
              have hxl : x < a.length := by omega
              have hyl : y < b.length := by omega
              have q2 : (m : Int) < (b.length : Int) - (k : Int) := by omega
              have s3 : IntKind.i64.wrap ((a.length : Int) - 1) = (a.length : Int) - 1 := by rw [IntWalk.i64_in _ (by omega)]
              have s4 : IntKind.i64.wrap ((b.length : Int) - 1) = (b.length : Int) - 1 := by rw [IntWalk.i64_in _ (by omega)]
              have s5 : IntKind.i64.wrap ((a.length : Int) - 1 - (m : Int)) = (x : Int) := by rw [IntWalk.i64_in _ (by omega)]; omega
              have s6 : IntKind.i64.wrap ((b.length : Int) - 1 - (m : Int)) = (y : Int) := by rw [IntWalk.i64_in _ (by omega)]; omega
              have x0 : (0 : Int) ≤ (x : Int) := by omega
              have y0 : (0 : Int) ≤ (y : Int) := by omega
              have x1 : (x : Int) < (a.length : Int) := by omega
              have y1 : (y : Int) < (b.length : Int) := by omega
              have e1 : (bk a k)[m]'(by rw [bk_len]; omega) = a[x] := by rw [bk_at _ (by omega)]; congr 1; exact hx.symm
              have e2 : (bk b k)[m]'(by rw [bk_len]; omega) = b[y] := by rw [bk_at _ (by omega)]; congr 1; exact hy.symm
              by_cases hc : a[x] = b[y]
              · have HS := Lib.hid (cpre_step (a := bk a k) (b := bk b k) (k := m) (by rw [bk_len]; omega) (by rw [bk_len]; omega) (by rw [e1, e2, hc]))
                have hc' := u8_eq hc
                clear hc e1 e2 hx hy
                go_wp2_with fail
                go_quiet (fail)
                have HB := Lib.hid (show Below w.heap.size w (wr.drewN nq) from up_drewN HBr.out nq)
                have HI := Lib.hid (show Is (wr.drewN nq) w.heap.size #[.int .i64 0, .int .i64 0, S []] from ⟨HIr.out.1, HIr.out.2⟩)
                go_wp2_with fail
                go_roundw
                case rel => exact ⟨m + 1, by omega, by omega, by go_num, Lib.hid (by rw [HM.out, HS.out]; omega), HI, HB⟩
                case measure => simp [intOf]; omega
              · have HS := Lib.hid (show csuf a b = m by rw [HM.out, cpre_stop (a := bk a k) (b := bk b k) (k := m) (by rw [bk_len]; omega) (by rw [bk_len]; omega) (by rw [e1, e2]; exact hc)]; rfl)
                have hc' := u8_ne hc
                clear hc e1 e2 hx hy
                go_wp2_with fail
                go_quiet (fail)
                have HB := Lib.hid (show Below w.heap.size w (wr.drewN nq) from up_drewN HBr.out nq)
                have HI := Lib.hid (show Is (wr.drewN nq) w.heap.size #[.int .i64 0, .int .i64 0, S []] from ⟨HIr.out.1, HIr.out.2⟩)
                have HD := Lib.hid (show dfC a b = ⟨(k : Int), (a.length : Int) - m - k, (b.take (b.length - m)).drop k⟩ by unfold dfC; rw [HS.out, HK.out])
                have hs1 := csuf_le a b
                rw [HS.out, HK.out] at hs1
                obtain ⟨z, hz⟩ : ∃ z, z = b.length - m := ⟨_, rfl⟩
                have z1 : (b.length : Int) - (m : Int) = (z : Int) := by omega
                have z2 : (k : Int) ≤ (z : Int) := by omega
                have z3 : (z : Int) ≤ (b.length : Int) := by omega
                rw [← hz] at HD
                have xc := HI.out.1
                have xf := HI.out.2
                clear hz HS HK
                try clear r1
                try clear r2
                try clear r4
                try clear hla
                try clear hlb
                try clear q1
                try clear q2
                try clear hab
                try clear hab2
                go_wp2_with fail
                rw [HD.out]
                refine bodyPost_ret (v := chAgg ⟨(k : Int), (a.length : Int) - m - k, (b.take z).drop k⟩) (by simp [results, Tryz.results118, go_sem, xc, chAgg]; try omega) rfl ⟨rfl, ?_⟩
                have hQ := HB.out
                (repeat refine up_set ?_ _ _ (by first | exact Nat.le_refl _ | (simp; done) | (simp; omega) | omega))
                exact hQ
            · skip
              have HS := Lib.hid (show csuf a b = m by rw [HM.out, cpre_end (by rw [bk_len, bk_len]; omega)]; rfl)
              have r1 : decide ((m : Int) < (b.length : Int) - (k : Int)) = false := decide_eq_false (by omega)
              have r2 : ¬ (m : Int) < (b.length : Int) - (k : Int) := by omega
              go_wp2_with fail
              go_quiet (fail)
              have HB := Lib.hid (show Below w.heap.size w (wr.drewN nq) from up_drewN HBr.out nq)
              have HI := Lib.hid (show Is (wr.drewN nq) w.heap.size #[.int .i64 0, .int .i64 0, S []] from ⟨HIr.out.1, HIr.out.2⟩)
              have HD := Lib.hid (show dfC a b = ⟨(k : Int), (a.length : Int) - m - k, (b.take (b.length - m)).drop k⟩ by unfold dfC; rw [HS.out, HK.out])
              have hs1 := csuf_le a b
              rw [HS.out, HK.out] at hs1
              obtain ⟨z, hz⟩ : ∃ z, z = b.length - m := ⟨_, rfl⟩
              have z1 : (b.length : Int) - (m : Int) = (z : Int) := by omega
              have z2 : (k : Int) ≤ (z : Int) := by omega
              have z3 : (z : Int) ≤ (b.length : Int) := by omega
              rw [← hz] at HD
              have xc := HI.out.1
              have xf := HI.out.2
              clear hz HS HK
              try clear r1
              try clear r2
              try clear r4
              try clear hla
              try clear hlb
              try clear q1
              try clear q2
              try clear hab
              try clear hab2
              go_wp2_with fail
              rw [HD.out]
              refine bodyPost_ret (v := chAgg ⟨(k : Int), (a.length : Int) - m - k, (b.take z).drop k⟩) (by simp [results, Tryz.results118, go_sem, xc, chAgg]; try omega) rfl ⟨rfl, ?_⟩
              have hQ := HB.out
              (repeat refine up_set ?_ _ _ (by first | exact Nat.le_refl _ | (simp; done) | (simp; omega) | omega))
              exact hQ
      · skip
        have HK := Lib.hid (show cpre a b = k by rw [HC.out, cpre_end (by omega)]; rfl)
        have p3 : decide ((k : Int) < (b.length : Int)) = false := decide_eq_false (by omega)
        have p5 : decide (k < b.length) = false := decide_eq_false (by omega)
        go_wp2_with fail
        go_quiet (fail)
        have HB := Lib.hid (show Below w.heap.size w (wr.drewN nq) from up_drewN HBr.out nq)
        have HI := Lib.hid (show Is (wr.drewN nq) w.heap.size #[.int .i64 0, .int .i64 0, S []] from ⟨HIr.out.1, HIr.out.2⟩)
        clear p3 p5 hl0 HC HIr HBr
        go_wp2_with fail
        go_loopw [6] (fun i wr => ∃ m : Nat, m ≤ a.length - k ∧ m ≤ b.length - k ∧ i = .int .i64 m ∧ Hid (csuf a b = m + cpre ((bk a k).drop m) ((bk b k).drop m)) ∧ Hid (Is wr w.heap.size #[.int .i64 0, .int .i64 0, S []]) ∧ Hid (Below w.heap.size w wr)) (fun i _ => a.length - (intOf i).toNat)
        case atStart => exact ⟨0, Nat.zero_le _, Nat.zero_le _, rfl, Lib.hid (by rw [csuf, HK.out, Nat.zero_add, List.drop_zero, List.drop_zero]), HI, HB⟩
        case round =>
          obtain ⟨m, hma, hmb, rfl, HM, HIr, HBr⟩ := hrel
          clear HI HB
          have s1 : IntKind.i64.wrap ((a.length : Int) - (k : Int)) = (a.length : Int) - (k : Int) := by rw [IntWalk.i64_in _ (by omega)]
          have s2 : IntKind.i64.wrap ((b.length : Int) - (k : Int)) = (b.length : Int) - (k : Int) := by rw [IntWalk.i64_in _ (by omega)]
          by_cases hla : m < b.length - k
          · have q1 : (m : Int) < (a.length : Int) - (k : Int) := by omega
            have hlb : m < b.length - k := by omega
            obtain ⟨x, hx⟩ : ∃ x, x = a.length - 1 - m := ⟨_, rfl⟩
            obtain ⟨y, hy⟩ : ∃ y, y = b.length - 1 - m := ⟨_, rfl⟩
            have hxl : x < a.length := by omega
            have hyl : y < b.length := by omega
            have q2 : (m : Int) < (b.length : Int) - (k : Int) := by omega
            have s3 : IntKind.i64.wrap ((a.length : Int) - 1) = (a.length : Int) - 1 := by rw [IntWalk.i64_in _ (by omega)]
            have s4 : IntKind.i64.wrap ((b.length : Int) - 1) = (b.length : Int) - 1 := by rw [IntWalk.i64_in _ (by omega)]
            have s5 : IntKind.i64.wrap ((a.length : Int) - 1 - (m : Int)) = (x : Int) := by rw [IntWalk.i64_in _ (by omega)]; omega
            have s6 : IntKind.i64.wrap ((b.length : Int) - 1 - (m : Int)) = (y : Int) := by rw [IntWalk.i64_in _ (by omega)]; omega
            have x0 : (0 : Int) ≤ (x : Int) := by omega
            have y0 : (0 : Int) ≤ (y : Int) := by omega
            have x1 : (x : Int) < (a.length : Int) := by omega
            have y1 : (y : Int) < (b.length : Int) := by omega
            have e1 : (bk a k)[m]'(by rw [bk_len]; omega) = a[x] := by rw [bk_at _ (by omega)]; congr 1; exact hx.symm
            have e2 : (bk b k)[m]'(by rw [bk_len]; omega) = b[y] := by rw [bk_at _ (by omega)]; congr 1; exact hy.symm
            by_cases hc : a[x] = b[y]
            · have HS := Lib.hid (cpre_step (a := bk a k) (b := bk b k) (k := m) (by rw [bk_len]; omega) (by rw [bk_len]; omega) (by rw [e1, e2, hc]))
              have hc' := u8_eq hc
              clear hc e1 e2 hx hy
              go_wp2_with fail
              go_quiet (fail)
              have HB := Lib.hid (show Below w.heap.size w (wr.drewN nq) from up_drewN HBr.out nq)
              have HI := Lib.hid (show Is (wr.drewN nq) w.heap.size #[.int .i64 0, .int .i64 0, S []] from ⟨HIr.out.1, HIr.out.2⟩)
              go_wp2_with fail
              go_roundw
              case rel => exact ⟨m + 1, by omega, by omega, by go_num, Lib.hid (by rw [HM.out, HS.out]; omega), HI, HB⟩
              case measure => simp [intOf]; omega
            · have HS := Lib.hid (show csuf a b = m by rw [HM.out, cpre_stop (a := bk a k) (b := bk b k) (k := m) (by rw [bk_len]; omega) (by rw [bk_len]; omega) (by rw [e1, e2]; exact hc)]; rfl)
              have hc' := u8_ne hc
              clear hc e1 e2 hx hy
              go_wp2_with fail
              go_quiet (fail)
              have HB := Lib.hid (show Below w.heap.size w (wr.drewN nq) from up_drewN HBr.out nq)
              have HI := Lib.hid (show Is (wr.drewN nq) w.heap.size #[.int .i64 0, .int .i64 0, S []] from ⟨HIr.out.1, HIr.out.2⟩)
              have HD := Lib.hid (show dfC a b = ⟨(k : Int), (a.length : Int) - m - k, (b.take (b.length - m)).drop k⟩ by unfold dfC; rw [HS.out, HK.out])
              have hs1 := csuf_le a b
              rw [HS.out, HK.out] at hs1
              obtain ⟨z, hz⟩ : ∃ z, z = b.length - m := ⟨_, rfl⟩
              have z1 : (b.length : Int) - (m : Int) = (z : Int) := by omega
              have z2 : (k : Int) ≤ (z : Int) := by omega
              have z3 : (z : Int) ≤ (b.length : Int) := by omega
              rw [← hz] at HD
              have xc := HI.out.1
              have xf := HI.out.2
              clear hz HS HK
              try clear r1
              try clear r2
              try clear r4
              try clear hla
              try clear hlb
              try clear q1
              try clear q2
              try clear hab
              try clear hab2
              go_wp2_with fail
              rw [HD.out]
              refine bodyPost_ret (v := chAgg ⟨(k : Int), (a.length : Int) - m - k, (b.take z).drop k⟩) (by simp [results, Tryz.results118, go_sem, xc, chAgg]; try omega) rfl ⟨rfl, ?_⟩
              have hQ := HB.out
              (repeat refine up_set ?_ _ _ (by first | exact Nat.le_refl _ | (simp; done) | (simp; omega) | omega))
              exact hQ
          · skip
            have HS := Lib.hid (show csuf a b = m by rw [HM.out, cpre_end (by rw [bk_len, bk_len]; omega)]; rfl)
            have r1 : decide ((m : Int) < (b.length : Int) - (k : Int)) = false := decide_eq_false (by omega)
            have r2 : ¬ (m : Int) < (b.length : Int) - (k : Int) := by omega
            go_wp2_with fail
            go_quiet (fail)
            have HB := Lib.hid (show Below w.heap.size w (wr.drewN nq) from up_drewN HBr.out nq)
            have HI := Lib.hid (show Is (wr.drewN nq) w.heap.size #[.int .i64 0, .int .i64 0, S []] from ⟨HIr.out.1, HIr.out.2⟩)
            have HD := Lib.hid (show dfC a b = ⟨(k : Int), (a.length : Int) - m - k, (b.take (b.length - m)).drop k⟩ by unfold dfC; rw [HS.out, HK.out])
            have hs1 := csuf_le a b
            rw [HS.out, HK.out] at hs1
            obtain ⟨z, hz⟩ : ∃ z, z = b.length - m := ⟨_, rfl⟩
            have z1 : (b.length : Int) - (m : Int) = (z : Int) := by omega
            have z2 : (k : Int) ≤ (z : Int) := by omega
            have z3 : (z : Int) ≤ (b.length : Int) := by omega
            rw [← hz] at HD
            have xc := HI.out.1
            have xf := HI.out.2
            clear hz HS HK
            try clear r1
            try clear r2
            try clear r4
            try clear hla
            try clear hlb
            try clear q1
            try clear q2
            try clear hab
            try clear hab2
            go_wp2_with fail
            rw [HD.out]
            refine bodyPost_ret (v := chAgg ⟨(k : Int), (a.length : Int) - m - k, (b.take z).drop k⟩) (by simp [results, Tryz.results118, go_sem, xc, chAgg]; try omega) rfl ⟨rfl, ?_⟩
            have hQ := HB.out
            (repeat refine up_set ?_ _ _ (by first | exact Nat.le_refl _ | (simp; done) | (simp; omega) | omega))
            exact hQ
  · have hab2 : ¬ b.length < a.length := by omega
    go_enter Tryz.func118, Tryz.ntmps118
    go_wp2_with fail
    refine (T.out _).mono ?_
    rintro e w1 ⟨rfl, rfl⟩
    go_wp2_with fail
    refine (U.out _).mono ?_
    rintro e w1 ⟨rfl, rfl⟩
    clear T U
    go_wp2_with fail
    have HI0 := Lib.hid (new_is w #[.int .i64 0, .int .i64 0, S []] 78)
    have HB0 := Lib.hid (up_alloc (Below.refl w.heap.size w) (.cells #[.int .i64 0, .int .i64 0, S []] 78))
    go_loopw [5] (fun i wr => ∃ k : Nat, k ≤ a.length ∧ k ≤ b.length ∧ i = .int .i64 k ∧ Hid (cpre a b = k + cpre (a.drop k) (b.drop k)) ∧ Hid (Is wr w.heap.size #[.int .i64 0, .int .i64 0, S []]) ∧ Hid (Below w.heap.size w wr)) (fun i _ => a.length - (intOf i).toNat)
    case atStart => exact ⟨0, Nat.zero_le _, Nat.zero_le _, rfl, Lib.hid (by simp), HI0, HB0⟩
    case round =>
      obtain ⟨k, hka, hkb, rfl, HC, HIr, HBr⟩ := hrel
      clear HI0 HB0
      have p0 : (0 : Int) ≤ (k : Int) := by omega
      by_cases hl0 : k < a.length
      · have hl1 : k < a.length := by omega
        have hl2 : k < b.length := by omega
        have p1 : (k : Int) < (a.length : Int) := by omega
        have p2 : (k : Int) < (b.length : Int) := by omega
        by_cases hc : a[k] = b[k]
        · have HS := Lib.hid (cpre_step hl1 hl2 hc)
          have hc' := u8_eq hc
          clear hc
          go_wp2_with fail
          go_quiet (fail)
          have HB := Lib.hid (show Below w.heap.size w (wr.drewN nq) from up_drewN HBr.out nq)
          have HI := Lib.hid (show Is (wr.drewN nq) w.heap.size #[.int .i64 0, .int .i64 0, S []] from ⟨HIr.out.1, HIr.out.2⟩)
          go_wp2_with fail
          go_roundw
          case rel => exact ⟨k + 1, by omega, by omega, by go_num, Lib.hid (by rw [HC.out, HS.out]; omega), HI, HB⟩
          case measure => simp [intOf]; omega
        · have HK := Lib.hid (show cpre a b = k by rw [HC.out, cpre_stop hl1 hl2 hc]; rfl)
          have hc' := u8_ne hc
          clear hc
          go_wp2_with fail
          go_quiet (fail)
          have HB := Lib.hid (show Below w.heap.size w (wr.drewN nq) from up_drewN HBr.out nq)
          have HI := Lib.hid (show Is (wr.drewN nq) w.heap.size #[.int .i64 0, .int .i64 0, S []] from ⟨HIr.out.1, HIr.out.2⟩)
          clear hc' HC HIr HBr
          go_wp2_with fail
          go_loopw [6] (fun i wr => ∃ m : Nat, m ≤ a.length - k ∧ m ≤ b.length - k ∧ i = .int .i64 m ∧ Hid (csuf a b = m + cpre ((bk a k).drop m) ((bk b k).drop m)) ∧ Hid (Is wr w.heap.size #[.int .i64 0, .int .i64 0, S []]) ∧ Hid (Below w.heap.size w wr)) (fun i _ => a.length - (intOf i).toNat)
          case atStart => exact ⟨0, Nat.zero_le _, Nat.zero_le _, rfl, Lib.hid (by rw [csuf, HK.out, Nat.zero_add, List.drop_zero, List.drop_zero]), HI, HB⟩
          case round =>
            obtain ⟨m, hma, hmb, rfl, HM, HIr, HBr⟩ := hrel
            clear HI HB
            have s1 : IntKind.i64.wrap ((a.length : Int) - (k : Int)) = (a.length : Int) - (k : Int) := by rw [IntWalk.i64_in _ (by omega)]
            have s2 : IntKind.i64.wrap ((b.length : Int) - (k : Int)) = (b.length : Int) - (k : Int) := by rw [IntWalk.i64_in _ (by omega)]
            by_cases hla : m < a.length - k
            · have q1 : (m : Int) < (a.length : Int) - (k : Int) := by omega
              have hlb : m < b.length - k := by omega
              obtain ⟨x, hx⟩ : ∃ x, x = a.length - 1 - m := ⟨_, rfl⟩
              obtain ⟨y, hy⟩ : ∃ y, y = b.length - 1 - m := ⟨_, rfl⟩
              have hxl : x < a.length := by omega
              have hyl : y < b.length := by omega
              have q2 : (m : Int) < (b.length : Int) - (k : Int) := by omega
              have s3 : IntKind.i64.wrap ((a.length : Int) - 1) = (a.length : Int) - 1 := by rw [IntWalk.i64_in _ (by omega)]
              have s4 : IntKind.i64.wrap ((b.length : Int) - 1) = (b.length : Int) - 1 := by rw [IntWalk.i64_in _ (by omega)]
              have s5 : IntKind.i64.wrap ((a.length : Int) - 1 - (m : Int)) = (x : Int) := by rw [IntWalk.i64_in _ (by omega)]; omega
              have s6 : IntKind.i64.wrap ((b.length : Int) - 1 - (m : Int)) = (y : Int) := by rw [IntWalk.i64_in _ (by omega)]; omega
              have x0 : (0 : Int) ≤ (x : Int) := by omega
              have y0 : (0 : Int) ≤ (y : Int) := by omega
              have x1 : (x : Int) < (a.length : Int) := by omega
              have y1 : (y : Int) < (b.length : Int) := by omega
              have e1 : (bk a k)[m]'(by rw [bk_len]; omega) = a[x] := by rw [bk_at _ (by omega)]; congr 1; exact hx.symm
              have e2 : (bk b k)[m]'(by rw [bk_len]; omega) = b[y] := by rw [bk_at _ (by omega)]; congr 1; exact hy.symm
              by_cases hc : a[x] = b[y]
              · have HS := Lib.hid (cpre_step (a := bk a k) (b := bk b k) (k := m) (by rw [bk_len]; omega) (by rw [bk_len]; omega) (by rw [e1, e2, hc]))
                have hc' := u8_eq hc
                clear hc e1 e2 hx hy
                go_wp2_with fail
                go_quiet (fail)
                have HB := Lib.hid (show Below w.heap.size w (wr.drewN nq) from up_drewN HBr.out nq)
                have HI := Lib.hid (show Is (wr.drewN nq) w.heap.size #[.int .i64 0, .int .i64 0, S []] from ⟨HIr.out.1, HIr.out.2⟩)
                go_wp2_with fail
                go_roundw
                case rel => exact ⟨m + 1, by omega, by omega, by go_num, Lib.hid (by rw [HM.out, HS.out]; omega), HI, HB⟩
                case measure => simp [intOf]; omega
              · have HS := Lib.hid (show csuf a b = m by rw [HM.out, cpre_stop (a := bk a k) (b := bk b k) (k := m) (by rw [bk_len]; omega) (by rw [bk_len]; omega) (by rw [e1, e2]; exact hc)]; rfl)
                have hc' := u8_ne hc
                clear hc e1 e2 hx hy
                go_wp2_with fail
                go_quiet (fail)
                have HB := Lib.hid (show Below w.heap.size w (wr.drewN nq) from up_drewN HBr.out nq)
                have HI := Lib.hid (show Is (wr.drewN nq) w.heap.size #[.int .i64 0, .int .i64 0, S []] from ⟨HIr.out.1, HIr.out.2⟩)
                have HD := Lib.hid (show dfC a b = ⟨(k : Int), (a.length : Int) - m - k, (b.take (b.length - m)).drop k⟩ by unfold dfC; rw [HS.out, HK.out])
                have hs1 := csuf_le a b
                rw [HS.out, HK.out] at hs1
                obtain ⟨z, hz⟩ : ∃ z, z = b.length - m := ⟨_, rfl⟩
                have z1 : (b.length : Int) - (m : Int) = (z : Int) := by omega
                have z2 : (k : Int) ≤ (z : Int) := by omega
                have z3 : (z : Int) ≤ (b.length : Int) := by omega
                rw [← hz] at HD
                have xc := HI.out.1
                have xf := HI.out.2
                clear hz HS HK
                try clear r1
                try clear r2
                try clear r4
                try clear hla
                try clear hlb
                try clear q1
                try clear q2
                try clear hab
                try clear hab2
                go_wp2_with fail
                rw [HD.out]
                refine bodyPost_ret (v := chAgg ⟨(k : Int), (a.length : Int) - m - k, (b.take z).drop k⟩) (by simp [results, Tryz.results118, go_sem, xc, chAgg]; try omega) rfl ⟨rfl, ?_⟩
                have hQ := HB.out
                (repeat refine up_set ?_ _ _ (by first | exact Nat.le_refl _ | (simp; done) | (simp; omega) | omega))
                exact hQ
            · skip
              have HS := Lib.hid (show csuf a b = m by rw [HM.out, cpre_end (by rw [bk_len, bk_len]; omega)]; rfl)
              have r1 : decide ((m : Int) < (a.length : Int) - (k : Int)) = false := decide_eq_false (by omega)
              have r2 : ¬ (m : Int) < (a.length : Int) - (k : Int) := by omega
              go_wp2_with fail
              go_quiet (fail)
              have HB := Lib.hid (show Below w.heap.size w (wr.drewN nq) from up_drewN HBr.out nq)
              have HI := Lib.hid (show Is (wr.drewN nq) w.heap.size #[.int .i64 0, .int .i64 0, S []] from ⟨HIr.out.1, HIr.out.2⟩)
              have HD := Lib.hid (show dfC a b = ⟨(k : Int), (a.length : Int) - m - k, (b.take (b.length - m)).drop k⟩ by unfold dfC; rw [HS.out, HK.out])
              have hs1 := csuf_le a b
              rw [HS.out, HK.out] at hs1
              obtain ⟨z, hz⟩ : ∃ z, z = b.length - m := ⟨_, rfl⟩
              have z1 : (b.length : Int) - (m : Int) = (z : Int) := by omega
              have z2 : (k : Int) ≤ (z : Int) := by omega
              have z3 : (z : Int) ≤ (b.length : Int) := by omega
              rw [← hz] at HD
              have xc := HI.out.1
              have xf := HI.out.2
              clear hz HS HK
              try clear r1
              try clear r2
              try clear r4
              try clear hla
              try clear hlb
              try clear q1
              try clear q2
              try clear hab
              try clear hab2
              go_wp2_with fail
              rw [HD.out]
              refine bodyPost_ret (v := chAgg ⟨(k : Int), (a.length : Int) - m - k, (b.take z).drop k⟩) (by simp [results, Tryz.results118, go_sem, xc, chAgg]; try omega) rfl ⟨rfl, ?_⟩
              have hQ := HB.out
              (repeat refine up_set ?_ _ _ (by first | exact Nat.le_refl _ | (simp; done) | (simp; omega) | omega))
              exact hQ
      · skip
        have HK := Lib.hid (show cpre a b = k by rw [HC.out, cpre_end (by omega)]; rfl)
        have p3 : decide ((k : Int) < (a.length : Int)) = false := decide_eq_false (by omega)
        have p5 : decide (k < a.length) = false := decide_eq_false (by omega)
        go_wp2_with fail
        go_quiet (fail)
        have HB := Lib.hid (show Below w.heap.size w (wr.drewN nq) from up_drewN HBr.out nq)
        have HI := Lib.hid (show Is (wr.drewN nq) w.heap.size #[.int .i64 0, .int .i64 0, S []] from ⟨HIr.out.1, HIr.out.2⟩)
        clear p3 p5 hl0 HC HIr HBr
        go_wp2_with fail
        go_loopw [6] (fun i wr => ∃ m : Nat, m ≤ a.length - k ∧ m ≤ b.length - k ∧ i = .int .i64 m ∧ Hid (csuf a b = m + cpre ((bk a k).drop m) ((bk b k).drop m)) ∧ Hid (Is wr w.heap.size #[.int .i64 0, .int .i64 0, S []]) ∧ Hid (Below w.heap.size w wr)) (fun i _ => a.length - (intOf i).toNat)
        case atStart => exact ⟨0, Nat.zero_le _, Nat.zero_le _, rfl, Lib.hid (by rw [csuf, HK.out, Nat.zero_add, List.drop_zero, List.drop_zero]), HI, HB⟩
        case round =>
          obtain ⟨m, hma, hmb, rfl, HM, HIr, HBr⟩ := hrel
          clear HI HB
          have s1 : IntKind.i64.wrap ((a.length : Int) - (k : Int)) = (a.length : Int) - (k : Int) := by rw [IntWalk.i64_in _ (by omega)]
          have s2 : IntKind.i64.wrap ((b.length : Int) - (k : Int)) = (b.length : Int) - (k : Int) := by rw [IntWalk.i64_in _ (by omega)]
          by_cases hla : m < a.length - k
          · have q1 : (m : Int) < (a.length : Int) - (k : Int) := by omega
            have hlb : m < b.length - k := by omega
            obtain ⟨x, hx⟩ : ∃ x, x = a.length - 1 - m := ⟨_, rfl⟩
            obtain ⟨y, hy⟩ : ∃ y, y = b.length - 1 - m := ⟨_, rfl⟩
            have hxl : x < a.length := by omega
            have hyl : y < b.length := by omega
            have q2 : (m : Int) < (b.length : Int) - (k : Int) := by omega
            have s3 : IntKind.i64.wrap ((a.length : Int) - 1) = (a.length : Int) - 1 := by rw [IntWalk.i64_in _ (by omega)]
            have s4 : IntKind.i64.wrap ((b.length : Int) - 1) = (b.length : Int) - 1 := by rw [IntWalk.i64_in _ (by omega)]
            have s5 : IntKind.i64.wrap ((a.length : Int) - 1 - (m : Int)) = (x : Int) := by rw [IntWalk.i64_in _ (by omega)]; omega
            have s6 : IntKind.i64.wrap ((b.length : Int) - 1 - (m : Int)) = (y : Int) := by rw [IntWalk.i64_in _ (by omega)]; omega
            have x0 : (0 : Int) ≤ (x : Int) := by omega
            have y0 : (0 : Int) ≤ (y : Int) := by omega
            have x1 : (x : Int) < (a.length : Int) := by omega
            have y1 : (y : Int) < (b.length : Int) := by omega
            have e1 : (bk a k)[m]'(by rw [bk_len]; omega) = a[x] := by rw [bk_at _ (by omega)]; congr 1; exact hx.symm
            have e2 : (bk b k)[m]'(by rw [bk_len]; omega) = b[y] := by rw [bk_at _ (by omega)]; congr 1; exact hy.symm
            by_cases hc : a[x] = b[y]
            · have HS := Lib.hid (cpre_step (a := bk a k) (b := bk b k) (k := m) (by rw [bk_len]; omega) (by rw [bk_len]; omega) (by rw [e1, e2, hc]))
              have hc' := u8_eq hc
              clear hc e1 e2 hx hy
              go_wp2_with fail
              go_quiet (fail)
              have HB := Lib.hid (show Below w.heap.size w (wr.drewN nq) from up_drewN HBr.out nq)
              have HI := Lib.hid (show Is (wr.drewN nq) w.heap.size #[.int .i64 0, .int .i64 0, S []] from ⟨HIr.out.1, HIr.out.2⟩)
              go_wp2_with fail
              go_roundw
              case rel => exact ⟨m + 1, by omega, by omega, by go_num, Lib.hid (by rw [HM.out, HS.out]; omega), HI, HB⟩
              case measure => simp [intOf]; omega
            · have HS := Lib.hid (show csuf a b = m by rw [HM.out, cpre_stop (a := bk a k) (b := bk b k) (k := m) (by rw [bk_len]; omega) (by rw [bk_len]; omega) (by rw [e1, e2]; exact hc)]; rfl)
              have hc' := u8_ne hc
              clear hc e1 e2 hx hy
              go_wp2_with fail
              go_quiet (fail)
              have HB := Lib.hid (show Below w.heap.size w (wr.drewN nq) from up_drewN HBr.out nq)
              have HI := Lib.hid (show Is (wr.drewN nq) w.heap.size #[.int .i64 0, .int .i64 0, S []] from ⟨HIr.out.1, HIr.out.2⟩)
              have HD := Lib.hid (show dfC a b = ⟨(k : Int), (a.length : Int) - m - k, (b.take (b.length - m)).drop k⟩ by unfold dfC; rw [HS.out, HK.out])
              have hs1 := csuf_le a b
              rw [HS.out, HK.out] at hs1
              obtain ⟨z, hz⟩ : ∃ z, z = b.length - m := ⟨_, rfl⟩
              have z1 : (b.length : Int) - (m : Int) = (z : Int) := by omega
              have z2 : (k : Int) ≤ (z : Int) := by omega
              have z3 : (z : Int) ≤ (b.length : Int) := by omega
              rw [← hz] at HD
              have xc := HI.out.1
              have xf := HI.out.2
              clear hz HS HK
              try clear r1
              try clear r2
              try clear r4
              try clear hla
              try clear hlb
              try clear q1
              try clear q2
              try clear hab
              try clear hab2
              go_wp2_with fail
              rw [HD.out]
              refine bodyPost_ret (v := chAgg ⟨(k : Int), (a.length : Int) - m - k, (b.take z).drop k⟩) (by simp [results, Tryz.results118, go_sem, xc, chAgg]; try omega) rfl ⟨rfl, ?_⟩
              have hQ := HB.out
              (repeat refine up_set ?_ _ _ (by first | exact Nat.le_refl _ | (simp; done) | (simp; omega) | omega))
              exact hQ
          · skip
            have HS := Lib.hid (show csuf a b = m by rw [HM.out, cpre_end (by rw [bk_len, bk_len]; omega)]; rfl)
            have r1 : decide ((m : Int) < (a.length : Int) - (k : Int)) = false := decide_eq_false (by omega)
            have r2 : ¬ (m : Int) < (a.length : Int) - (k : Int) := by omega
            go_wp2_with fail
            go_quiet (fail)
            have HB := Lib.hid (show Below w.heap.size w (wr.drewN nq) from up_drewN HBr.out nq)
            have HI := Lib.hid (show Is (wr.drewN nq) w.heap.size #[.int .i64 0, .int .i64 0, S []] from ⟨HIr.out.1, HIr.out.2⟩)
            have HD := Lib.hid (show dfC a b = ⟨(k : Int), (a.length : Int) - m - k, (b.take (b.length - m)).drop k⟩ by unfold dfC; rw [HS.out, HK.out])
            have hs1 := csuf_le a b
            rw [HS.out, HK.out] at hs1
            obtain ⟨z, hz⟩ : ∃ z, z = b.length - m := ⟨_, rfl⟩
            have z1 : (b.length : Int) - (m : Int) = (z : Int) := by omega
            have z2 : (k : Int) ≤ (z : Int) := by omega
            have z3 : (z : Int) ≤ (b.length : Int) := by omega
            rw [← hz] at HD
            have xc := HI.out.1
            have xf := HI.out.2
            clear hz HS HK
            try clear r1
            try clear r2
            try clear r4
            try clear hla
            try clear hlb
            try clear q1
            try clear q2
            try clear hab
            try clear hab2
            go_wp2_with fail
            rw [HD.out]
            refine bodyPost_ret (v := chAgg ⟨(k : Int), (a.length : Int) - m - k, (b.take z).drop k⟩) (by simp [results, Tryz.results118, go_sem, xc, chAgg]; try omega) rfl ⟨rfl, ?_⟩
            have hQ := HB.out
            (repeat refine up_set ?_ _ _ (by first | exact Nat.le_refl _ | (simp; done) | (simp; omega) | omega))
            exact hQ

end Go.Proofs.YtbjlkdenkmbepaaGreatDoor
