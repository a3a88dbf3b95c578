/- What is proved here: contracts of the reference's PressKey: lines and other keys. No condition. -/
import Derived.Test.YtndmidcilbghkaaKey3
namespace Go.Proofs.Ytndmidcilbghkaa
open Go.RowKit

theorem lineOf_nat (s : List UInt8) (n : Nat) (w : World) (hs : tv s = true) (hn : n ≤ s.length) :
    Calls Try.prog 32 #[S s, .int .i64 n] w fun e w' => e = .returned (.int .i64 (nl (s.take n))) ∧ w = w' := by
  have hl := tv_len hs
  have h := specLineOf_any s n w (by unfold maxLen; omega)
  rw [hs, inB_iff.2 (show (0 : Int) ≤ n ∧ (n : Int) ≤ s.length by omega), Int.toNat_natCast, Bool.and_self, if_pos rfl] at h
  exact h
theorem lineMany_tv (s : List UInt8) (w : World) (hs : tv s = true) :
    Calls Try.prog 34 #[S s] w fun e w' => e = .returned (.int .i64 (1 + (nl s : Int))) ∧ w = w' := by
  have hl := tv_len hs
  have h := specLineMany_any s w (by unfold maxLen; omega)
  rw [hs, if_pos rfl] at h
  exact h

set_option maxRecDepth 100000 in
set_option maxHeartbeats 1000000 in
theorem sk94n (s : List UInt8) (n : Nat) (x : Int) (w : World) (hd : dkOk ⟨s, n, x⟩ = true) (hi : inB ((nl (s.take n) : Int) + -1) 0 (nl s) = false) :
    Calls Try.prog 12 #[.agg #[S s, .int .i64 n, .int .i64 x], .int .u8 94] w (SkPost s n x false w) := by
  have hW := Below.refl w.heap.size w
  obtain ⟨h1, h2, h3, h4, h5, h6⟩ := dkOk_out hd
  simp only at h1 h2 h3 h4 h5 h6
  have hnl : n ≤ s.length := by omega
  have HD := Lib.hid hd
  have HT := Lib.hid h1
  have HB := byte_str 94 (by omega) (by omega)
  have hnn := nl_le s
  have hmn := nl_mono s hnl
  rw [nl_full] at hmn
  have HI := Lib.hid hi
  have HQ : Hid ((nl (s.take n) : Int) - 1 = (nl (s.take n) : Int) + -1) := Lib.hid (by omega)
  clear hi
  unfold SkPost
  go_enter Try.func12, Try.ntmps12
  go_wp2_with fail
  refine (specDeskValid_any ⟨s, n, x⟩ _ (by show s.length ≤ maxLen; unfold maxLen; omega)).mono ?_
  rw [HD.out]
  rintro e w1 ⟨rfl, hb⟩
  have hB : Below w.heap.size w w1 := (by (repeat (first | exact Below.refl _ _ | assumption | refine Below.drew ?_ | refine up_drewN ?_ _ | refine up_alloc ?_ _ | refine up_set ?_ _ _ (by first | exact Nat.le_refl _ | (simp; done) | (simp; omega) | omega) | refine up_trans ?_ (by assumption)))); have sw1 := hB.size; replace hW := up_trans hW hB; clear hB
  have ac : ∀ o, w1.cell? ⟨w.heap.size, o, none⟩ = #[S s, .int .i64 n, .int .i64 x][o]? := (fun o => (hb.cell (p := ⟨w.heap.size, o, none⟩) (by simp <;> omega)).trans (by simp [go_sem])); have af : ∀ o, w1.frozen? ⟨w.heap.size, o, none⟩ = false := (fun o => (hb.frozen (p := ⟨w.heap.size, o, none⟩) (by simp <;> omega)).trans (by simp [go_sem])); have az : w.heap.size < w1.heap.size := (by have := hb.size; (try simp at this); omega); have ay := az
  have yc : ∀ o, w1.cell? ⟨w.heap.size + 1, o, none⟩ = #[S [], .int .i64 0, .int .i64 0][o]? := (fun o => (hb.cell (p := ⟨w.heap.size + 1, o, none⟩) (by simp <;> omega)).trans (by simp [go_sem])); have yf : ∀ o, w1.frozen? ⟨w.heap.size + 1, o, none⟩ = false := (fun o => (hb.frozen (p := ⟨w.heap.size + 1, o, none⟩) (by simp <;> omega)).trans (by simp [go_sem])); have yz : w.heap.size + 1 < w1.heap.size := (by have := hb.size; (try simp at this); omega); have yy := yz
  have ne1 : ¬ w.heap.size + 1 = w.heap.size := by omega
  have ne2 : ¬ w.heap.size = w.heap.size + 1 := by omega
  clear hb h1 hd
  go_wp2_with fail
  refine (lineOf_nat s n _ HT.out hnl).mono ?_
  rintro e w2 ⟨rfl, rfl⟩
  go_wp2_with fail
  refine (lineMany_tv s _ HT.out).mono ?_
  rintro e w2 ⟨rfl, rfl⟩
  go_wp2_with fail
  rw [show (1 + (nl s : Int) - 1) = (nl s : Int) by omega, HQ.out]
  refine (l1In_any _ _ _ _).mono ?_
  rw [HI.out]
  rintro e w2 ⟨rfl, rfl⟩
  go_wp2_with fail
  refine bodyPost_ret (v := .tuple #[.agg #[S s, .int .i64 n, .int .i64 x], .bool false]) (by simp [results, Try.results12, go_sem, yc, yz]) rfl ⟨rfl, by (repeat (first | exact Below.refl _ _ | assumption | refine Below.drew ?_ | refine up_drewN ?_ _ | refine up_alloc ?_ _ | refine up_set ?_ _ _ (by first | exact Nat.le_refl _ | (simp; done) | (simp; omega) | omega) | refine up_trans ?_ (by assumption)))⟩

set_option maxRecDepth 100000 in
set_option maxHeartbeats 1000000 in
theorem sk94y (s : List UInt8) (n : Nat) (x : Int) (w : World) (hd : dkOk ⟨s, n, x⟩ = true) (q : Nat) (hq : (nl (s.take n) : Int) + -1 = q) (hqn : q ≤ nl s) :
    Calls Try.prog 12 #[.agg #[S s, .int .i64 n, .int .i64 x], .int .u8 94] w (SkPost s (pAt s q x) x true w) := by
  have hW := Below.refl w.heap.size w
  obtain ⟨h1, h2, h3, h4, h5, h6⟩ := dkOk_out hd
  simp only at h1 h2 h3 h4 h5 h6
  have hnl : n ≤ s.length := by omega
  have HD := Lib.hid hd
  have HT := Lib.hid h1
  have HB := byte_str 94 (by omega) (by omega)
  have hnn := nl_le s
  have hmn := nl_mono s hnl
  rw [nl_full] at hmn
  have HI := Lib.hid (inB_iff.2 (show (0 : Int) ≤ (q : Int) ∧ (q : Int) ≤ (nl s : Int) by omega))
  have HQ : Hid ((nl (s.take n) : Int) - 1 = (q : Int)) := Lib.hid (by omega)
  clear hq
  unfold SkPost
  go_enter Try.func12, Try.ntmps12
  go_wp2_with fail
  refine (specDeskValid_any ⟨s, n, x⟩ _ (by show s.length ≤ maxLen; unfold maxLen; omega)).mono ?_
  rw [HD.out]
  rintro e w1 ⟨rfl, hb⟩
  have hB : Below w.heap.size w w1 := (by (repeat (first | exact Below.refl _ _ | assumption | refine Below.drew ?_ | refine up_drewN ?_ _ | refine up_alloc ?_ _ | refine up_set ?_ _ _ (by first | exact Nat.le_refl _ | (simp; done) | (simp; omega) | omega) | refine up_trans ?_ (by assumption)))); have sw1 := hB.size; replace hW := up_trans hW hB; clear hB
  have ac : ∀ o, w1.cell? ⟨w.heap.size, o, none⟩ = #[S s, .int .i64 n, .int .i64 x][o]? := (fun o => (hb.cell (p := ⟨w.heap.size, o, none⟩) (by simp <;> omega)).trans (by simp [go_sem])); have af : ∀ o, w1.frozen? ⟨w.heap.size, o, none⟩ = false := (fun o => (hb.frozen (p := ⟨w.heap.size, o, none⟩) (by simp <;> omega)).trans (by simp [go_sem])); have az : w.heap.size < w1.heap.size := (by have := hb.size; (try simp at this); omega); have ay := az
  have yc : ∀ o, w1.cell? ⟨w.heap.size + 1, o, none⟩ = #[S [], .int .i64 0, .int .i64 0][o]? := (fun o => (hb.cell (p := ⟨w.heap.size + 1, o, none⟩) (by simp <;> omega)).trans (by simp [go_sem])); have yf : ∀ o, w1.frozen? ⟨w.heap.size + 1, o, none⟩ = false := (fun o => (hb.frozen (p := ⟨w.heap.size + 1, o, none⟩) (by simp <;> omega)).trans (by simp [go_sem])); have yz : w.heap.size + 1 < w1.heap.size := (by have := hb.size; (try simp at this); omega); have yy := yz
  have ne1 : ¬ w.heap.size + 1 = w.heap.size := by omega
  have ne2 : ¬ w.heap.size = w.heap.size + 1 := by omega
  clear hb h1 hd
  go_wp2_with fail
  refine (lineOf_nat s n _ HT.out hnl).mono ?_
  rintro e w2 ⟨rfl, rfl⟩
  go_wp2_with fail
  refine (lineMany_tv s _ HT.out).mono ?_
  rintro e w2 ⟨rfl, rfl⟩
  go_wp2_with fail
  rw [show (1 + (nl s : Int) - 1) = (nl s : Int) by omega, HQ.out]
  refine (l1In_any _ _ _ _).mono ?_
  rw [HI.out]
  rintro e w2 ⟨rfl, rfl⟩
  have a0 := ac 0
  have a1 := ac 1
  have a2 := ac 2
  simp only [List.getElem?_toArray, List.getElem?_cons_zero, List.getElem?_cons_succ] at a0 a1 a2
  clear ac af
  go_wp2_with fail
  go_region_with (go_at_call 35; refine (specPlaceAt_any s q x _ HT.out hqn h4 h5).mono ?_; rintro e w2 ⟨rfl, rfl⟩)
  all_goals
    go_wp2_with fail
    refine bodyPost_ret (v := .tuple #[.agg #[S s, .int .i64 (pAt s q x), .int .i64 x], .bool true]) (by simp [results, Try.results12, go_sem, yc, yz]) rfl ⟨rfl, by (repeat (first | exact Below.refl _ _ | assumption | refine Below.drew ?_ | refine up_drewN ?_ _ | refine up_alloc ?_ _ | refine up_set ?_ _ _ (by first | exact Nat.le_refl _ | (simp; done) | (simp; omega) | omega) | refine up_trans ?_ (by assumption)))⟩

set_option maxRecDepth 100000 in
set_option maxHeartbeats 1000000 in
theorem sk95n (s : List UInt8) (n : Nat) (x : Int) (w : World) (hd : dkOk ⟨s, n, x⟩ = true) (hi : inB ((nl (s.take n) : Int) + 1) 0 (nl s) = false) :
    Calls Try.prog 12 #[.agg #[S s, .int .i64 n, .int .i64 x], .int .u8 95] w (SkPost s n x false w) := by
  have hW := Below.refl w.heap.size w
  obtain ⟨h1, h2, h3, h4, h5, h6⟩ := dkOk_out hd
  simp only at h1 h2 h3 h4 h5 h6
  have hnl : n ≤ s.length := by omega
  have HD := Lib.hid hd
  have HT := Lib.hid h1
  have HB := byte_str 95 (by omega) (by omega)
  have hnn := nl_le s
  have hmn := nl_mono s hnl
  rw [nl_full] at hmn
  have HI := Lib.hid hi
  have HQ : Hid ((nl (s.take n) : Int) - 1 + 2 = (nl (s.take n) : Int) + 1) := Lib.hid (by omega)
  clear hi
  unfold SkPost
  go_enter Try.func12, Try.ntmps12
  go_wp2_with fail
  refine (specDeskValid_any ⟨s, n, x⟩ _ (by show s.length ≤ maxLen; unfold maxLen; omega)).mono ?_
  rw [HD.out]
  rintro e w1 ⟨rfl, hb⟩
  have hB : Below w.heap.size w w1 := (by (repeat (first | exact Below.refl _ _ | assumption | refine Below.drew ?_ | refine up_drewN ?_ _ | refine up_alloc ?_ _ | refine up_set ?_ _ _ (by first | exact Nat.le_refl _ | (simp; done) | (simp; omega) | omega) | refine up_trans ?_ (by assumption)))); have sw1 := hB.size; replace hW := up_trans hW hB; clear hB
  have ac : ∀ o, w1.cell? ⟨w.heap.size, o, none⟩ = #[S s, .int .i64 n, .int .i64 x][o]? := (fun o => (hb.cell (p := ⟨w.heap.size, o, none⟩) (by simp <;> omega)).trans (by simp [go_sem])); have af : ∀ o, w1.frozen? ⟨w.heap.size, o, none⟩ = false := (fun o => (hb.frozen (p := ⟨w.heap.size, o, none⟩) (by simp <;> omega)).trans (by simp [go_sem])); have az : w.heap.size < w1.heap.size := (by have := hb.size; (try simp at this); omega); have ay := az
  have yc : ∀ o, w1.cell? ⟨w.heap.size + 1, o, none⟩ = #[S [], .int .i64 0, .int .i64 0][o]? := (fun o => (hb.cell (p := ⟨w.heap.size + 1, o, none⟩) (by simp <;> omega)).trans (by simp [go_sem])); have yf : ∀ o, w1.frozen? ⟨w.heap.size + 1, o, none⟩ = false := (fun o => (hb.frozen (p := ⟨w.heap.size + 1, o, none⟩) (by simp <;> omega)).trans (by simp [go_sem])); have yz : w.heap.size + 1 < w1.heap.size := (by have := hb.size; (try simp at this); omega); have yy := yz
  have ne1 : ¬ w.heap.size + 1 = w.heap.size := by omega
  have ne2 : ¬ w.heap.size = w.heap.size + 1 := by omega
  clear hb h1 hd
  go_wp2_with fail
  refine (lineOf_nat s n _ HT.out hnl).mono ?_
  rintro e w2 ⟨rfl, rfl⟩
  go_wp2_with fail
  refine (lineMany_tv s _ HT.out).mono ?_
  rintro e w2 ⟨rfl, rfl⟩
  go_wp2_with fail
  rw [show (1 + (nl s : Int) - 1) = (nl s : Int) by omega, HQ.out]
  refine (l1In_any _ _ _ _).mono ?_
  rw [HI.out]
  rintro e w2 ⟨rfl, rfl⟩
  go_wp2_with fail
  refine bodyPost_ret (v := .tuple #[.agg #[S s, .int .i64 n, .int .i64 x], .bool false]) (by simp [results, Try.results12, go_sem, yc, yz]) rfl ⟨rfl, by (repeat (first | exact Below.refl _ _ | assumption | refine Below.drew ?_ | refine up_drewN ?_ _ | refine up_alloc ?_ _ | refine up_set ?_ _ _ (by first | exact Nat.le_refl _ | (simp; done) | (simp; omega) | omega) | refine up_trans ?_ (by assumption)))⟩

set_option maxRecDepth 100000 in
set_option maxHeartbeats 1000000 in
theorem sk95y (s : List UInt8) (n : Nat) (x : Int) (w : World) (hd : dkOk ⟨s, n, x⟩ = true) (q : Nat) (hq : (nl (s.take n) : Int) + 1 = q) (hqn : q ≤ nl s) :
    Calls Try.prog 12 #[.agg #[S s, .int .i64 n, .int .i64 x], .int .u8 95] w (SkPost s (pAt s q x) x true w) := by
  have hW := Below.refl w.heap.size w
  obtain ⟨h1, h2, h3, h4, h5, h6⟩ := dkOk_out hd
  simp only at h1 h2 h3 h4 h5 h6
  have hnl : n ≤ s.length := by omega
  have HD := Lib.hid hd
  have HT := Lib.hid h1
  have HB := byte_str 95 (by omega) (by omega)
  have hnn := nl_le s
  have hmn := nl_mono s hnl
  rw [nl_full] at hmn
  have HI := Lib.hid (inB_iff.2 (show (0 : Int) ≤ (q : Int) ∧ (q : Int) ≤ (nl s : Int) by omega))
  have HQ : Hid ((nl (s.take n) : Int) - 1 + 2 = (q : Int)) := Lib.hid (by omega)
  clear hq
  unfold SkPost
  go_enter Try.func12, Try.ntmps12
  go_wp2_with fail
  refine (specDeskValid_any ⟨s, n, x⟩ _ (by show s.length ≤ maxLen; unfold maxLen; omega)).mono ?_
  rw [HD.out]
  rintro e w1 ⟨rfl, hb⟩
  have hB : Below w.heap.size w w1 := (by (repeat (first | exact Below.refl _ _ | assumption | refine Below.drew ?_ | refine up_drewN ?_ _ | refine up_alloc ?_ _ | refine up_set ?_ _ _ (by first | exact Nat.le_refl _ | (simp; done) | (simp; omega) | omega) | refine up_trans ?_ (by assumption)))); have sw1 := hB.size; replace hW := up_trans hW hB; clear hB
  have ac : ∀ o, w1.cell? ⟨w.heap.size, o, none⟩ = #[S s, .int .i64 n, .int .i64 x][o]? := (fun o => (hb.cell (p := ⟨w.heap.size, o, none⟩) (by simp <;> omega)).trans (by simp [go_sem])); have af : ∀ o, w1.frozen? ⟨w.heap.size, o, none⟩ = false := (fun o => (hb.frozen (p := ⟨w.heap.size, o, none⟩) (by simp <;> omega)).trans (by simp [go_sem])); have az : w.heap.size < w1.heap.size := (by have := hb.size; (try simp at this); omega); have ay := az
  have yc : ∀ o, w1.cell? ⟨w.heap.size + 1, o, none⟩ = #[S [], .int .i64 0, .int .i64 0][o]? := (fun o => (hb.cell (p := ⟨w.heap.size + 1, o, none⟩) (by simp <;> omega)).trans (by simp [go_sem])); have yf : ∀ o, w1.frozen? ⟨w.heap.size + 1, o, none⟩ = false := (fun o => (hb.frozen (p := ⟨w.heap.size + 1, o, none⟩) (by simp <;> omega)).trans (by simp [go_sem])); have yz : w.heap.size + 1 < w1.heap.size := (by have := hb.size; (try simp at this); omega); have yy := yz
  have ne1 : ¬ w.heap.size + 1 = w.heap.size := by omega
  have ne2 : ¬ w.heap.size = w.heap.size + 1 := by omega
  clear hb h1 hd
  go_wp2_with fail
  refine (lineOf_nat s n _ HT.out hnl).mono ?_
  rintro e w2 ⟨rfl, rfl⟩
  go_wp2_with fail
  refine (lineMany_tv s _ HT.out).mono ?_
  rintro e w2 ⟨rfl, rfl⟩
  go_wp2_with fail
  rw [show (1 + (nl s : Int) - 1) = (nl s : Int) by omega, HQ.out]
  refine (l1In_any _ _ _ _).mono ?_
  rw [HI.out]
  rintro e w2 ⟨rfl, rfl⟩
  have a0 := ac 0
  have a1 := ac 1
  have a2 := ac 2
  simp only [List.getElem?_toArray, List.getElem?_cons_zero, List.getElem?_cons_succ] at a0 a1 a2
  clear ac af
  go_wp2_with fail
  go_region_with (go_at_call 35; refine (specPlaceAt_any s q x _ HT.out hqn h4 h5).mono ?_; rintro e w2 ⟨rfl, rfl⟩)
  all_goals
    go_wp2_with fail
    refine bodyPost_ret (v := .tuple #[.agg #[S s, .int .i64 (pAt s q x), .int .i64 x], .bool true]) (by simp [results, Try.results12, go_sem, yc, yz]) rfl ⟨rfl, by (repeat (first | exact Below.refl _ _ | assumption | refine Below.drew ?_ | refine up_drewN ?_ _ | refine up_alloc ?_ _ | refine up_set ?_ _ _ (by first | exact Nat.le_refl _ | (simp; done) | (simp; omega) | omega) | refine up_trans ?_ (by assumption)))⟩

set_option maxRecDepth 100000 in
set_option maxHeartbeats 1000000 in
theorem sk64y (s : List UInt8) (n : Nat) (x : Int) (w : World) (hd : dkOk ⟨s, n, x⟩ = true) (hk : chOk s n 0 [10] = true) :
    Calls Try.prog 12 #[.agg #[S s, .int .i64 n, .int .i64 x], .int .u8 64] w (SkPost (chTo s n 0 [10]) (n + 1 : Nat) (colOf (chTo s n 0 [10]) (n + 1)) true w) := by
  have hW := Below.refl w.heap.size w
  obtain ⟨h1, h2, h3, h4, h5, h6⟩ := dkOk_out hd
  simp only at h1 h2 h3 h4 h5 h6
  have hnl : n ≤ s.length := by omega
  have HD := Lib.hid hd
  have HT := Lib.hid h1
  have HB := byte_str 64 (by omega) (by omega)
  have hk2 := hk
  unfold chOk at hk2
  simp only [Bool.and_eq_true] at hk2
  have hl2 := chTo_len [10] hk2.1.1.2
  have ht2 := chTo_tv [10] h1 hk2.1.1.2
  rw [hk] at ht2
  have HA := Lib.hid (fun w => specApplyChange_any s n 0 [10] w (by unfold maxLen; omega) (by simp))
  unfold chV AcPost at HA
  rw [hk, show apTo s n 0 [10] = chTo s n 0 [10] by unfold apTo; rw [if_pos hk]] at HA
  generalize chTo s n 0 [10] = s2 at *
  have HT2 := Lib.hid ht2
  have hlen2 : n + 1 ≤ s2.length := by simp at hl2; omega
  have HC : Hid ((n : Int) + 1 = ((n + 1 : Nat) : Int)) := Lib.hid (by omega)
  clear hk hk2 hl2 ht2
  unfold SkPost
  go_enter Try.func12, Try.ntmps12
  go_wp2_with fail
  refine (specDeskValid_any ⟨s, n, x⟩ _ (by show s.length ≤ maxLen; unfold maxLen; omega)).mono ?_
  rw [HD.out]
  rintro e w1 ⟨rfl, hb⟩
  have hB : Below w.heap.size w w1 := (by (repeat (first | exact Below.refl _ _ | assumption | refine Below.drew ?_ | refine up_drewN ?_ _ | refine up_alloc ?_ _ | refine up_set ?_ _ _ (by first | exact Nat.le_refl _ | (simp; done) | (simp; omega) | omega) | refine up_trans ?_ (by assumption)))); have sw1 := hB.size; replace hW := up_trans hW hB; clear hB
  have ac : ∀ o, w1.cell? ⟨w.heap.size, o, none⟩ = #[S s, .int .i64 n, .int .i64 x][o]? := (fun o => (hb.cell (p := ⟨w.heap.size, o, none⟩) (by simp <;> omega)).trans (by simp [go_sem])); have af : ∀ o, w1.frozen? ⟨w.heap.size, o, none⟩ = false := (fun o => (hb.frozen (p := ⟨w.heap.size, o, none⟩) (by simp <;> omega)).trans (by simp [go_sem])); have az : w.heap.size < w1.heap.size := (by have := hb.size; (try simp at this); omega); have ay := az
  have yc : ∀ o, w1.cell? ⟨w.heap.size + 1, o, none⟩ = #[S [], .int .i64 0, .int .i64 0][o]? := (fun o => (hb.cell (p := ⟨w.heap.size + 1, o, none⟩) (by simp <;> omega)).trans (by simp [go_sem])); have yf : ∀ o, w1.frozen? ⟨w.heap.size + 1, o, none⟩ = false := (fun o => (hb.frozen (p := ⟨w.heap.size + 1, o, none⟩) (by simp <;> omega)).trans (by simp [go_sem])); have yz : w.heap.size + 1 < w1.heap.size := (by have := hb.size; (try simp at this); omega); have yy := yz
  have ne1 : ¬ w.heap.size + 1 = w.heap.size := by omega
  have ne2 : ¬ w.heap.size = w.heap.size + 1 := by omega
  clear hb h1 hd
  go_wp2_with fail
  refine (HA.out _).mono ?_
  rintro e w2 ⟨rfl, hb⟩
  have hB2 : Below w1.heap.size w1 w2 := (by (repeat (first | exact Below.refl _ _ | assumption | refine Below.drew ?_ | refine up_drewN ?_ _ | refine up_alloc ?_ _ | refine up_set ?_ _ _ (by first | exact Nat.le_refl _ | (simp; done) | (simp; omega) | omega) | refine up_trans ?_ (by assumption))))
  replace yc := up_c hB2 yz yc
  replace yf := up_f hB2 yz yf
  replace yz := Nat.lt_of_lt_of_le yz hB2.size
  replace ac := up_c hB2 az ac
  replace af := up_f hB2 az af
  replace az := Nat.lt_of_lt_of_le az hB2.size
  replace hW := up_trans hW hB2
  clear hb hB2
  go_wp2_with fail
  rw [HC.out]
  refine (l19At_any s2 (n + 1) _ HT2.out hlen2).mono ?_
  rintro e w3 ⟨rfl, hb⟩
  have hB2 : Below w2.heap.size w2 w3 := (by (repeat (first | exact Below.refl _ _ | assumption | refine Below.drew ?_ | refine up_drewN ?_ _ | refine up_alloc ?_ _ | refine up_set ?_ _ _ (by first | exact Nat.le_refl _ | (simp; done) | (simp; omega) | omega) | refine up_trans ?_ (by assumption))))
  replace yc := up_c hB2 yz yc
  replace yf := up_f hB2 yz yf
  replace yz := Nat.lt_of_lt_of_le yz hB2.size
  replace hW := up_trans hW hB2
  clear hb hB2 ac af
  go_wp2_with fail
  refine bodyPost_ret (v := .tuple #[.agg #[S s2, .int .i64 ((n + 1 : Nat) : Int), .int .i64 (colOf s2 (n + 1))], .bool true]) (by simp [results, Try.results12, go_sem, yc]) rfl ⟨rfl, by (repeat (first | exact Below.refl _ _ | assumption | refine Below.drew ?_ | refine up_drewN ?_ _ | refine up_alloc ?_ _ | refine up_set ?_ _ _ (by first | exact Nat.le_refl _ | (simp; done) | (simp; omega) | omega) | refine up_trans ?_ (by assumption)))⟩

set_option maxRecDepth 100000 in
set_option maxHeartbeats 1000000 in
theorem sk64n (s : List UInt8) (n : Nat) (x : Int) (w : World) (hd : dkOk ⟨s, n, x⟩ = true) (hk : chOk s n 0 [10] = false) :
    Calls Try.prog 12 #[.agg #[S s, .int .i64 n, .int .i64 x], .int .u8 64] w (SkPost s n x false w) := by
  have hW := Below.refl w.heap.size w
  obtain ⟨h1, h2, h3, h4, h5, h6⟩ := dkOk_out hd
  simp only at h1 h2 h3 h4 h5 h6
  have hnl : n ≤ s.length := by omega
  have HD := Lib.hid hd
  have HT := Lib.hid h1
  have HB := byte_str 64 (by omega) (by omega)
  have HA := Lib.hid (fun w => specApplyChange_any s n 0 [10] w (by unfold maxLen; omega) (by simp))
  unfold chV AcPost at HA
  rw [hk] at HA
  clear hk
  unfold SkPost
  go_enter Try.func12, Try.ntmps12
  go_wp2_with fail
  refine (specDeskValid_any ⟨s, n, x⟩ _ (by show s.length ≤ maxLen; unfold maxLen; omega)).mono ?_
  rw [HD.out]
  rintro e w1 ⟨rfl, hb⟩
  have hB : Below w.heap.size w w1 := (by (repeat (first | exact Below.refl _ _ | assumption | refine Below.drew ?_ | refine up_drewN ?_ _ | refine up_alloc ?_ _ | refine up_set ?_ _ _ (by first | exact Nat.le_refl _ | (simp; done) | (simp; omega) | omega) | refine up_trans ?_ (by assumption)))); have sw1 := hB.size; replace hW := up_trans hW hB; clear hB
  have ac : ∀ o, w1.cell? ⟨w.heap.size, o, none⟩ = #[S s, .int .i64 n, .int .i64 x][o]? := (fun o => (hb.cell (p := ⟨w.heap.size, o, none⟩) (by simp <;> omega)).trans (by simp [go_sem])); have af : ∀ o, w1.frozen? ⟨w.heap.size, o, none⟩ = false := (fun o => (hb.frozen (p := ⟨w.heap.size, o, none⟩) (by simp <;> omega)).trans (by simp [go_sem])); have az : w.heap.size < w1.heap.size := (by have := hb.size; (try simp at this); omega); have ay := az
  have yc : ∀ o, w1.cell? ⟨w.heap.size + 1, o, none⟩ = #[S [], .int .i64 0, .int .i64 0][o]? := (fun o => (hb.cell (p := ⟨w.heap.size + 1, o, none⟩) (by simp <;> omega)).trans (by simp [go_sem])); have yf : ∀ o, w1.frozen? ⟨w.heap.size + 1, o, none⟩ = false := (fun o => (hb.frozen (p := ⟨w.heap.size + 1, o, none⟩) (by simp <;> omega)).trans (by simp [go_sem])); have yz : w.heap.size + 1 < w1.heap.size := (by have := hb.size; (try simp at this); omega); have yy := yz
  have ne1 : ¬ w.heap.size + 1 = w.heap.size := by omega
  have ne2 : ¬ w.heap.size = w.heap.size + 1 := by omega
  clear hb h1 hd
  go_wp2_with fail
  refine (HA.out _).mono ?_
  rintro e w2 ⟨rfl, hb⟩
  have hB2 : Below w1.heap.size w1 w2 := (by (repeat (first | exact Below.refl _ _ | assumption | refine Below.drew ?_ | refine up_drewN ?_ _ | refine up_alloc ?_ _ | refine up_set ?_ _ _ (by first | exact Nat.le_refl _ | (simp; done) | (simp; omega) | omega) | refine up_trans ?_ (by assumption))))
  replace yc := up_c hB2 yz yc
  replace yf := up_f hB2 yz yf
  replace yz := Nat.lt_of_lt_of_le yz hB2.size
  replace ac := up_c hB2 az ac
  replace af := up_f hB2 az af
  replace az := Nat.lt_of_lt_of_le az hB2.size
  replace hW := up_trans hW hB2
  clear hb hB2
  go_wp2_with fail
  refine bodyPost_ret (v := .tuple #[.agg #[S s, .int .i64 n, .int .i64 x], .bool false]) (by simp [results, Try.results12, go_sem, yc]) rfl ⟨rfl, by (repeat (first | exact Below.refl _ _ | assumption | refine Below.drew ?_ | refine up_drewN ?_ _ | refine up_alloc ?_ _ | refine up_set ?_ _ _ (by first | exact Nat.le_refl _ | (simp; done) | (simp; omega) | omega) | refine up_trans ?_ (by assumption)))⟩

set_option maxRecDepth 100000 in
set_option maxHeartbeats 1000000 in
theorem skOthy (s : List UInt8) (n : Nat) (x : Int) (c : Int) (w : World) (hd : dkOk ⟨s, n, x⟩ = true) (g0 : 0 ≤ c) (g1 : c ≤ 255) (m0 : ((c : Int) == 60) = false) (m1 : ((c : Int) == 62) = false) (m2 : ((c : Int) == 35) = false) (m3 : ((c : Int) == 94) = false) (m4 : ((c : Int) == 95) = false) (m5 : ((c : Int) == 64) = false) (r0 : 32 ≤ c) (r1 : c ≤ 126) (hk : chOk s n 0 [UInt8.ofNat c.toNat] = true) :
    Calls Try.prog 12 #[.agg #[S s, .int .i64 n, .int .i64 x], .int .u8 c] w (SkPost (chTo s n 0 [UInt8.ofNat c.toNat]) (n + 1 : Nat) (colOf (chTo s n 0 [UInt8.ofNat c.toNat]) (n + 1)) true w) := by
  have hW := Below.refl w.heap.size w
  obtain ⟨h1, h2, h3, h4, h5, h6⟩ := dkOk_out hd
  simp only at h1 h2 h3 h4 h5 h6
  have hnl : n ≤ s.length := by omega
  have HD := Lib.hid hd
  have HT := Lib.hid h1
  have HB := byte_str c (by omega) (by omega)
  have hk2 := hk
  unfold chOk at hk2
  simp only [Bool.and_eq_true] at hk2
  have hl2 := chTo_len [UInt8.ofNat c.toNat] hk2.1.1.2
  have ht2 := chTo_tv [UInt8.ofNat c.toNat] h1 hk2.1.1.2
  rw [hk] at ht2
  have HA := Lib.hid (fun w => specApplyChange_any s n 0 [UInt8.ofNat c.toNat] w (by unfold maxLen; omega) (by simp))
  unfold chV AcPost at HA
  rw [hk, show apTo s n 0 [UInt8.ofNat c.toNat] = chTo s n 0 [UInt8.ofNat c.toNat] by unfold apTo; rw [if_pos hk]] at HA
  generalize chTo s n 0 [UInt8.ofNat c.toNat] = s2 at *
  have HT2 := Lib.hid ht2
  have hlen2 : n + 1 ≤ s2.length := by simp at hl2; omega
  have HC : Hid ((n : Int) + 1 = ((n + 1 : Nat) : Int)) := Lib.hid (by omega)
  clear hk hk2 hl2 ht2
  unfold SkPost
  go_enter Try.func12, Try.ntmps12
  go_wp2_with fail
  refine (specDeskValid_any ⟨s, n, x⟩ _ (by show s.length ≤ maxLen; unfold maxLen; omega)).mono ?_
  rw [HD.out]
  rintro e w1 ⟨rfl, hb⟩
  have hB : Below w.heap.size w w1 := (by (repeat (first | exact Below.refl _ _ | assumption | refine Below.drew ?_ | refine up_drewN ?_ _ | refine up_alloc ?_ _ | refine up_set ?_ _ _ (by first | exact Nat.le_refl _ | (simp; done) | (simp; omega) | omega) | refine up_trans ?_ (by assumption)))); have sw1 := hB.size; replace hW := up_trans hW hB; clear hB
  have ac : ∀ o, w1.cell? ⟨w.heap.size, o, none⟩ = #[S s, .int .i64 n, .int .i64 x][o]? := (fun o => (hb.cell (p := ⟨w.heap.size, o, none⟩) (by simp <;> omega)).trans (by simp [go_sem])); have af : ∀ o, w1.frozen? ⟨w.heap.size, o, none⟩ = false := (fun o => (hb.frozen (p := ⟨w.heap.size, o, none⟩) (by simp <;> omega)).trans (by simp [go_sem])); have az : w.heap.size < w1.heap.size := (by have := hb.size; (try simp at this); omega); have ay := az
  have yc : ∀ o, w1.cell? ⟨w.heap.size + 1, o, none⟩ = #[S [], .int .i64 0, .int .i64 0][o]? := (fun o => (hb.cell (p := ⟨w.heap.size + 1, o, none⟩) (by simp <;> omega)).trans (by simp [go_sem])); have yf : ∀ o, w1.frozen? ⟨w.heap.size + 1, o, none⟩ = false := (fun o => (hb.frozen (p := ⟨w.heap.size + 1, o, none⟩) (by simp <;> omega)).trans (by simp [go_sem])); have yz : w.heap.size + 1 < w1.heap.size := (by have := hb.size; (try simp at this); omega); have yy := yz
  have ne1 : ¬ w.heap.size + 1 = w.heap.size := by omega
  have ne2 : ¬ w.heap.size = w.heap.size + 1 := by omega
  clear hb h1 hd
  go_wp2_with fail
  refine (HA.out _).mono ?_
  rintro e w2 ⟨rfl, hb⟩
  have hB2 : Below w1.heap.size w1 w2 := (by (repeat (first | exact Below.refl _ _ | assumption | refine Below.drew ?_ | refine up_drewN ?_ _ | refine up_alloc ?_ _ | refine up_set ?_ _ _ (by first | exact Nat.le_refl _ | (simp; done) | (simp; omega) | omega) | refine up_trans ?_ (by assumption))))
  replace yc := up_c hB2 yz yc
  replace yf := up_f hB2 yz yf
  replace yz := Nat.lt_of_lt_of_le yz hB2.size
  replace ac := up_c hB2 az ac
  replace af := up_f hB2 az af
  replace az := Nat.lt_of_lt_of_le az hB2.size
  replace hW := up_trans hW hB2
  clear hb hB2
  go_wp2_with fail
  rw [HC.out]
  refine (l19At_any s2 (n + 1) _ HT2.out hlen2).mono ?_
  rintro e w3 ⟨rfl, hb⟩
  have hB2 : Below w2.heap.size w2 w3 := (by (repeat (first | exact Below.refl _ _ | assumption | refine Below.drew ?_ | refine up_drewN ?_ _ | refine up_alloc ?_ _ | refine up_set ?_ _ _ (by first | exact Nat.le_refl _ | (simp; done) | (simp; omega) | omega) | refine up_trans ?_ (by assumption))))
  replace yc := up_c hB2 yz yc
  replace yf := up_f hB2 yz yf
  replace yz := Nat.lt_of_lt_of_le yz hB2.size
  replace hW := up_trans hW hB2
  clear hb hB2 ac af
  go_wp2_with fail
  refine bodyPost_ret (v := .tuple #[.agg #[S s2, .int .i64 ((n + 1 : Nat) : Int), .int .i64 (colOf s2 (n + 1))], .bool true]) (by simp [results, Try.results12, go_sem, yc]) rfl ⟨rfl, by (repeat (first | exact Below.refl _ _ | assumption | refine Below.drew ?_ | refine up_drewN ?_ _ | refine up_alloc ?_ _ | refine up_set ?_ _ _ (by first | exact Nat.le_refl _ | (simp; done) | (simp; omega) | omega) | refine up_trans ?_ (by assumption)))⟩

set_option maxRecDepth 100000 in
set_option maxHeartbeats 1000000 in
theorem skOthn (s : List UInt8) (n : Nat) (x : Int) (c : Int) (w : World) (hd : dkOk ⟨s, n, x⟩ = true) (g0 : 0 ≤ c) (g1 : c ≤ 255) (m0 : ((c : Int) == 60) = false) (m1 : ((c : Int) == 62) = false) (m2 : ((c : Int) == 35) = false) (m3 : ((c : Int) == 94) = false) (m4 : ((c : Int) == 95) = false) (m5 : ((c : Int) == 64) = false) (hk : chOk s n 0 [UInt8.ofNat c.toNat] = false) :
    Calls Try.prog 12 #[.agg #[S s, .int .i64 n, .int .i64 x], .int .u8 c] w (SkPost s n x false w) := by
  have hW := Below.refl w.heap.size w
  obtain ⟨h1, h2, h3, h4, h5, h6⟩ := dkOk_out hd
  simp only at h1 h2 h3 h4 h5 h6
  have hnl : n ≤ s.length := by omega
  have HD := Lib.hid hd
  have HT := Lib.hid h1
  have HB := byte_str c (by omega) (by omega)
  have HA := Lib.hid (fun w => specApplyChange_any s n 0 [UInt8.ofNat c.toNat] w (by unfold maxLen; omega) (by simp))
  unfold chV AcPost at HA
  rw [hk] at HA
  clear hk
  unfold SkPost
  go_enter Try.func12, Try.ntmps12
  go_wp2_with fail
  refine (specDeskValid_any ⟨s, n, x⟩ _ (by show s.length ≤ maxLen; unfold maxLen; omega)).mono ?_
  rw [HD.out]
  rintro e w1 ⟨rfl, hb⟩
  have hB : Below w.heap.size w w1 := (by (repeat (first | exact Below.refl _ _ | assumption | refine Below.drew ?_ | refine up_drewN ?_ _ | refine up_alloc ?_ _ | refine up_set ?_ _ _ (by first | exact Nat.le_refl _ | (simp; done) | (simp; omega) | omega) | refine up_trans ?_ (by assumption)))); have sw1 := hB.size; replace hW := up_trans hW hB; clear hB
  have ac : ∀ o, w1.cell? ⟨w.heap.size, o, none⟩ = #[S s, .int .i64 n, .int .i64 x][o]? := (fun o => (hb.cell (p := ⟨w.heap.size, o, none⟩) (by simp <;> omega)).trans (by simp [go_sem])); have af : ∀ o, w1.frozen? ⟨w.heap.size, o, none⟩ = false := (fun o => (hb.frozen (p := ⟨w.heap.size, o, none⟩) (by simp <;> omega)).trans (by simp [go_sem])); have az : w.heap.size < w1.heap.size := (by have := hb.size; (try simp at this); omega); have ay := az
  have yc : ∀ o, w1.cell? ⟨w.heap.size + 1, o, none⟩ = #[S [], .int .i64 0, .int .i64 0][o]? := (fun o => (hb.cell (p := ⟨w.heap.size + 1, o, none⟩) (by simp <;> omega)).trans (by simp [go_sem])); have yf : ∀ o, w1.frozen? ⟨w.heap.size + 1, o, none⟩ = false := (fun o => (hb.frozen (p := ⟨w.heap.size + 1, o, none⟩) (by simp <;> omega)).trans (by simp [go_sem])); have yz : w.heap.size + 1 < w1.heap.size := (by have := hb.size; (try simp at this); omega); have yy := yz
  have ne1 : ¬ w.heap.size + 1 = w.heap.size := by omega
  have ne2 : ¬ w.heap.size = w.heap.size + 1 := by omega
  clear hb h1 hd
  go_wp2_with fail
  refine (HA.out _).mono ?_
  rintro e w2 ⟨rfl, hb⟩
  have hB2 : Below w1.heap.size w1 w2 := (by (repeat (first | exact Below.refl _ _ | assumption | refine Below.drew ?_ | refine up_drewN ?_ _ | refine up_alloc ?_ _ | refine up_set ?_ _ _ (by first | exact Nat.le_refl _ | (simp; done) | (simp; omega) | omega) | refine up_trans ?_ (by assumption))))
  replace yc := up_c hB2 yz yc
  replace yf := up_f hB2 yz yf
  replace yz := Nat.lt_of_lt_of_le yz hB2.size
  replace ac := up_c hB2 az ac
  replace af := up_f hB2 az af
  replace az := Nat.lt_of_lt_of_le az hB2.size
  replace hW := up_trans hW hB2
  clear hb hB2
  go_wp2_with fail
  refine bodyPost_ret (v := .tuple #[.agg #[S s, .int .i64 n, .int .i64 x], .bool false]) (by simp [results, Try.results12, go_sem, yc]) rfl ⟨rfl, by (repeat (first | exact Below.refl _ _ | assumption | refine Below.drew ?_ | refine up_drewN ?_ _ | refine up_alloc ?_ _ | refine up_set ?_ _ _ (by first | exact Nat.le_refl _ | (simp; done) | (simp; omega) | omega) | refine up_trans ?_ (by assumption)))⟩

set_option maxRecDepth 100000 in
set_option maxHeartbeats 1000000 in
theorem sk10 (s : List UInt8) (n : Nat) (x : Int) (w : World) (hd : dkOk ⟨s, n, x⟩ = true) :
    Calls Try.prog 12 #[.agg #[S s, .int .i64 n, .int .i64 x], .int .u8 10] w (SkPost s n x false w) := by
  have hW := Below.refl w.heap.size w
  obtain ⟨h1, h2, h3, h4, h5, h6⟩ := dkOk_out hd
  simp only at h1 h2 h3 h4 h5 h6
  have hnl : n ≤ s.length := by omega
  have HD := Lib.hid hd
  have HT := Lib.hid h1
  have HB := byte_str 10 (by omega) (by omega)
  generalize hok : chOk s n 0 [10] = ok
  have HA := Lib.hid (fun w => specApplyChange_any s n 0 [10] w (by unfold maxLen; omega) (by simp))
  unfold chV AcPost at HA
  rw [hok] at HA
  clear hok
  unfold SkPost
  go_enter Try.func12, Try.ntmps12
  go_wp2_with fail
  refine (specDeskValid_any ⟨s, n, x⟩ _ (by show s.length ≤ maxLen; unfold maxLen; omega)).mono ?_
  rw [HD.out]
  rintro e w1 ⟨rfl, hb⟩
  have hB : Below w.heap.size w w1 := (by (repeat (first | exact Below.refl _ _ | assumption | refine Below.drew ?_ | refine up_drewN ?_ _ | refine up_alloc ?_ _ | refine up_set ?_ _ _ (by first | exact Nat.le_refl _ | (simp; done) | (simp; omega) | omega) | refine up_trans ?_ (by assumption)))); have sw1 := hB.size; replace hW := up_trans hW hB; clear hB
  have ac : ∀ o, w1.cell? ⟨w.heap.size, o, none⟩ = #[S s, .int .i64 n, .int .i64 x][o]? := (fun o => (hb.cell (p := ⟨w.heap.size, o, none⟩) (by simp <;> omega)).trans (by simp [go_sem])); have af : ∀ o, w1.frozen? ⟨w.heap.size, o, none⟩ = false := (fun o => (hb.frozen (p := ⟨w.heap.size, o, none⟩) (by simp <;> omega)).trans (by simp [go_sem])); have az : w.heap.size < w1.heap.size := (by have := hb.size; (try simp at this); omega); have ay := az
  have yc : ∀ o, w1.cell? ⟨w.heap.size + 1, o, none⟩ = #[S [], .int .i64 0, .int .i64 0][o]? := (fun o => (hb.cell (p := ⟨w.heap.size + 1, o, none⟩) (by simp <;> omega)).trans (by simp [go_sem])); have yf : ∀ o, w1.frozen? ⟨w.heap.size + 1, o, none⟩ = false := (fun o => (hb.frozen (p := ⟨w.heap.size + 1, o, none⟩) (by simp <;> omega)).trans (by simp [go_sem])); have yz : w.heap.size + 1 < w1.heap.size := (by have := hb.size; (try simp at this); omega); have yy := yz
  have ne1 : ¬ w.heap.size + 1 = w.heap.size := by omega
  have ne2 : ¬ w.heap.size = w.heap.size + 1 := by omega
  clear hb h1 hd
  go_wp2_with fail
  refine (HA.out _).mono ?_
  rintro e w2 ⟨rfl, hb⟩
  have hB2 : Below w1.heap.size w1 w2 := (by (repeat (first | exact Below.refl _ _ | assumption | refine Below.drew ?_ | refine up_drewN ?_ _ | refine up_alloc ?_ _ | refine up_set ?_ _ _ (by first | exact Nat.le_refl _ | (simp; done) | (simp; omega) | omega) | refine up_trans ?_ (by assumption))))
  replace yc := up_c hB2 yz yc
  replace yf := up_f hB2 yz yf
  replace yz := Nat.lt_of_lt_of_le yz hB2.size
  replace ac := up_c hB2 az ac
  replace af := up_f hB2 az af
  replace az := Nat.lt_of_lt_of_le az hB2.size
  replace hW := up_trans hW hB2
  clear hb hB2
  rcases ok with _ | _
  all_goals
    go_wp2_with fail
    refine bodyPost_ret (v := .tuple #[.agg #[S s, .int .i64 n, .int .i64 x], .bool false]) (by simp [results, Try.results12, go_sem, yc]) rfl ⟨rfl, by (repeat (first | exact Below.refl _ _ | assumption | refine Below.drew ?_ | refine up_drewN ?_ _ | refine up_alloc ?_ _ | refine up_set ?_ _ _ (by first | exact Nat.le_refl _ | (simp; done) | (simp; omega) | omega) | refine up_trans ?_ (by assumption)))⟩

set_option maxHeartbeats 1000000 in
theorem skNo (d : Dk) (c : Int) (w : World) (hs : d.body.length ≤ maxLen) (hd : dkOk d = false) :
    Calls Try.prog 12 #[dkV d, .int .u8 c] w (DkPost (dk0, false) w) := by
  have hW := Below.refl w.heap.size w
  have HD := Lib.hid hd
  clear hd
  unfold DkPost dkV dk0
  go_enter Try.func12, Try.ntmps12
  go_wp2_with fail
  refine (specDeskValid_any d _ hs).mono ?_
  rw [HD.out]
  rintro e w1 ⟨rfl, hb⟩
  have hB : Below w.heap.size w w1 := (by (repeat (first | exact Below.refl _ _ | assumption | refine Below.drew ?_ | refine up_drewN ?_ _ | refine up_alloc ?_ _ | refine up_set ?_ _ _ (by first | exact Nat.le_refl _ | (simp; done) | (simp; omega) | omega) | refine up_trans ?_ (by assumption)))); have sw1 := hB.size; replace hW := up_trans hW hB; clear hB
  have xc : ∀ o, w1.cell? ⟨w.heap.size, o, none⟩ = #[S d.body, .int .i64 d.place, .int .i64 d.want][o]? := (fun o => (hb.cell (p := ⟨w.heap.size, o, none⟩) (by simp <;> omega)).trans (by simp [go_sem])); have xf : ∀ o, w1.frozen? ⟨w.heap.size, o, none⟩ = false := (fun o => (hb.frozen (p := ⟨w.heap.size, o, none⟩) (by simp <;> omega)).trans (by simp [go_sem])); have xz : w.heap.size < w1.heap.size := (by have := hb.size; (try simp at this); omega); have xy := xz
  have yc : ∀ o, w1.cell? ⟨w.heap.size + 1, o, none⟩ = #[S [], .int .i64 0, .int .i64 0][o]? := (fun o => (hb.cell (p := ⟨w.heap.size + 1, o, none⟩) (by simp <;> omega)).trans (by simp [go_sem])); have yf : ∀ o, w1.frozen? ⟨w.heap.size + 1, o, none⟩ = false := (fun o => (hb.frozen (p := ⟨w.heap.size + 1, o, none⟩) (by simp <;> omega)).trans (by simp [go_sem])); have yz : w.heap.size + 1 < w1.heap.size := (by have := hb.size; (try simp at this); omega); have yy := yz
  clear hb
  go_wp2_with fail
  refine bodyPost_ret (v := .tuple #[.agg #[S [], .int .i64 0, .int .i64 0], .bool false]) (by simp [results, Try.results12, go_sem, yc]) rfl ⟨rfl, by (repeat (first | exact Below.refl _ _ | assumption | refine Below.drew ?_ | refine up_drewN ?_ _ | refine up_alloc ?_ _ | refine up_set ?_ _ _ (by first | exact Nat.le_refl _ | (simp; done) | (simp; omega) | omega) | refine up_trans ?_ (by assumption)))⟩

end Go.Proofs.Ytndmidcilbghkaa
