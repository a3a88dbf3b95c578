/- What is proved here: the walk of the law FnHistoryDo. No condition. -/
import Derived.Test.YtjcdklkdpcncgaaLH1
import Derived.Test.YtjcdklkdpcncgaaChg1
namespace Go.Proofs.Ytjcdklkdpcncgaa
open Go.RowKit
set_option linter.unusedVariables false

set_option maxRecDepth 100000 in
set_option maxHeartbeats 4000000 in
theorem historyDo_walk (v : Value) (n : Nat) (zs : List Int) (w : World) (h : Bytes w w.heap.size v n zs) :
    Calls Try.prog 12 #[v] w fun e w' => e = .returned (.bool true) ∧ Below w.heap.size w w' := by
  have h' := h
  obtain ⟨h1, h2, A0, c0, rfl, h3, h4, h5⟩ := h
  clear h5 h2 h1 h4
  by_cases hn : n ≤ 1048576
  case neg =>
    go_enter Try.func12, Try.ntmps12
    go_wp2_with fail
    go_ret
    exact ⟨rfl, Below.refl _ _⟩
  have hW := Below.refl w.heap.size w
  go_enter Try.func12, Try.ntmps12
  go_wp2_with fail
  refine (drawHistoryDo_any _ n zs _ (h'.to (by (repeat (first | exact Below.refl _ _ | assumption | refine Below.drew ?_ | refine up_drewN ?_ _ | refine up_alloc ?_ _ | refine up_set ?_ _ _ (by first | exact Nat.le_refl _ | (simp; done) | (simp; omega) | omega) | refine up_trans ?_ (by assumption)))))).mono ?_
  rintro e w1 ⟨hv, ms, a, s, qa, qc, ct, rfl, H, hl, hs, hct, hb⟩
  have hB : Below w.heap.size w w1 := (by (repeat (first | exact Below.refl _ _ | assumption | refine Below.drew ?_ | refine up_drewN ?_ _ | refine up_alloc ?_ _ | refine up_set ?_ _ _ (by first | exact Nat.le_refl _ | (simp; done) | (simp; omega) | omega) | refine up_trans ?_ (by assumption)))); have sw1 := hB.size; replace hW := up_trans hW hB; clear hB
  obtain ⟨A, c, rfl, -, -⟩ := H.1.form
  have HH := Lib.hid H
  have hpt : PutsLe 1048576 ms := H.2
  obtain ⟨ms2, a2, t2, ok, hp2, fI, fS, hcase⟩ := do_out ms a s ⟨qa, qc, ct⟩ hl hs (by show ct.length ≤ _; omega) hpt
  have FI := Lib.hid fI
  have FS := Lib.hid fS
  clear hb h' H fI fS hpt
  go_wp2_with fail
  refine (FI.out _ _ (HH.out.up (by (repeat (first | exact Below.refl _ _ | assumption | refine Below.drew ?_ | refine up_drewN ?_ _ | refine up_alloc ?_ _ | refine up_set ?_ _ _ (by first | exact Nat.le_refl _ | (simp; done) | (simp; omega) | omega) | refine up_trans ?_ (by assumption)))))).mono ?_
  rintro e w2 ⟨xv, rfl, ho2, hb⟩
  have hc : ∀ o, w2.cell? ⟨w1.heap.size, o, none⟩ = #[.slice A ms.length c, .int .i64 a][o]? := (fun o => (hb.cell (p := ⟨w1.heap.size, o, none⟩) (by simp <;> omega)).trans (by simp [go_sem])); have hf : ∀ o, w2.frozen? ⟨w1.heap.size, o, none⟩ = false := (fun o => (hb.frozen (p := ⟨w1.heap.size, o, none⟩) (by simp <;> omega)).trans (by simp [go_sem])); have hz : w1.heap.size < w2.heap.size := (by have := hb.size; (try simp at this); omega); have hy := hz
  have kc : ∀ o, w2.cell? ⟨w1.heap.size + 1, o, none⟩ = #[.int .i64 qa, .int .i64 qc, S ct][o]? := (fun o => (hb.cell (p := ⟨w1.heap.size + 1, o, none⟩) (by simp <;> omega)).trans (by simp [go_sem])); have kf : ∀ o, w2.frozen? ⟨w1.heap.size + 1, o, none⟩ = false := (fun o => (hb.frozen (p := ⟨w1.heap.size + 1, o, none⟩) (by simp <;> omega)).trans (by simp [go_sem])); have kz : w1.heap.size + 1 < w2.heap.size := (by have := hb.size; (try simp at this); omega); have ky := kz
  replace HH := RdM.hup HH (show Below w1.heap.size w1 w2 by (repeat (first | exact Below.refl _ _ | assumption | refine Below.drew ?_ | refine up_drewN ?_ _ | refine up_alloc ?_ _ | refine up_set ?_ _ _ (by first | exact Nat.le_refl _ | (simp; done) | (simp; omega) | omega) | refine up_trans ?_ (by assumption))))
  have hB : Below w1.heap.size w1 w2 := (by (repeat (first | exact Below.refl _ _ | assumption | refine Below.drew ?_ | refine up_drewN ?_ _ | refine up_alloc ?_ _ | refine up_set ?_ _ _ (by first | exact Nat.le_refl _ | (simp; done) | (simp; omega) | omega) | refine up_trans ?_ (by assumption)))); have sw2 := hB.size; replace hW := up_trans hW hB; clear hB
  have RX := Lib.hid (rdM_puts ho2 hp2 (Nat.le_refl _))
  obtain ⟨XA, XC, rfl, -, -⟩ := (RdL.of_own (f := moC) (bs := ms2) ho2).form
  clear hb ho2
  go_wp2_with fail
  refine (FS.out _ _ (HH.out.up (by (repeat (first | exact Below.refl _ _ | assumption | refine Below.drew ?_ | refine up_drewN ?_ _ | refine up_alloc ?_ _ | refine up_set ?_ _ _ (by first | exact Nat.le_refl _ | (simp; done) | (simp; omega) | omega) | refine up_trans ?_ (by assumption)))))).mono ?_
  rintro e w3 ⟨yv, rfl, ho3, hb⟩
  have xc : ∀ o, w3.cell? ⟨w2.heap.size, o, none⟩ = #[.slice XA ms2.length XC, .int .i64 a2][o]? := (fun o => (hb.cell (p := ⟨w2.heap.size, o, none⟩) (by simp <;> omega)).trans (by simp [go_sem])); have xf : ∀ o, w3.frozen? ⟨w2.heap.size, o, none⟩ = false := (fun o => (hb.frozen (p := ⟨w2.heap.size, o, none⟩) (by simp <;> omega)).trans (by simp [go_sem])); have xz : w2.heap.size < w3.heap.size := (by have := hb.size; (try simp at this); omega); have xy := xz
  have hB3 : Below w2.heap.size w2 w3 := by (repeat (first | exact Below.refl _ _ | assumption | refine Below.drew ?_ | refine up_drewN ?_ _ | refine up_alloc ?_ _ | refine up_set ?_ _ _ (by first | exact Nat.le_refl _ | (simp; done) | (simp; omega) | omega) | refine up_trans ?_ (by assumption)))
  replace HH := RdM.hup HH hB3
  replace RX := RdM.hup RX hB3
  have hB : Below w2.heap.size w2 w3 := (by (repeat (first | exact Below.refl _ _ | assumption | refine Below.drew ?_ | refine up_drewN ?_ _ | refine up_alloc ?_ _ | refine up_set ?_ _ _ (by first | exact Nat.le_refl _ | (simp; done) | (simp; omega) | omega) | refine up_trans ?_ (by assumption)))); replace hc := up_c hB hz hc; replace hf := up_f hB hz hf; replace hz := Nat.lt_of_lt_of_le hz hB.size; replace kc := up_c hB kz kc; replace kf := up_f hB kz kf; replace kz := Nat.lt_of_lt_of_le kz hB.size; have sw3 := hB.size; replace hW := up_trans hW hB; clear hB
  have RY := Lib.hid (rdM_puts ho3 hp2 (Nat.le_refl _))
  obtain ⟨YA, YC, rfl, -, -⟩ := (RdL.of_own (f := moC) (bs := ms2) ho3).form
  have sx : ¬ w3.heap.size = w2.heap.size := by omega
  have sx' : ¬ w2.heap.size = w3.heap.size := by omega
  clear hb ho3 hB3
  go_wp2_with fail
  refine (sameHistory_same _ _ ms2 a2 _ (RX.out.up (by (repeat (first | exact Below.refl _ _ | assumption | refine Below.drew ?_ | refine up_drewN ?_ _ | refine up_alloc ?_ _ | refine up_set ?_ _ _ (by first | exact Nat.le_refl _ | (simp; done) | (simp; omega) | omega) | refine up_trans ?_ (by assumption))))) (RY.out.up (by (repeat (first | exact Below.refl _ _ | assumption | refine Below.drew ?_ | refine up_drewN ?_ _ | refine up_alloc ?_ _ | refine up_set ?_ _ _ (by first | exact Nat.le_refl _ | (simp; done) | (simp; omega) | omega) | refine up_trans ?_ (by assumption)))))).mono ?_
  rintro e w4 ⟨rfl, hb⟩
  have hB4 : Below w3.heap.size w3 w4 := by (repeat (first | exact Below.refl _ _ | assumption | refine Below.drew ?_ | refine up_drewN ?_ _ | refine up_alloc ?_ _ | refine up_set ?_ _ _ (by first | exact Nat.le_refl _ | (simp; done) | (simp; omega) | omega) | refine up_trans ?_ (by assumption)))
  replace HH := RdM.hup HH hB4
  replace RX := RdM.hup RX hB4
  have hB : Below w3.heap.size w3 w4 := (by (repeat (first | exact Below.refl _ _ | assumption | refine Below.drew ?_ | refine up_drewN ?_ _ | refine up_alloc ?_ _ | refine up_set ?_ _ _ (by first | exact Nat.le_refl _ | (simp; done) | (simp; omega) | omega) | refine up_trans ?_ (by assumption)))); replace hc := up_c hB hz hc; replace hf := up_f hB hz hf; replace hz := Nat.lt_of_lt_of_le hz hB.size; replace xc := up_c hB xz xc; replace xf := up_f hB xz xf; replace xz := Nat.lt_of_lt_of_le xz hB.size; replace kc := up_c hB kz kc; replace kf := up_f hB kz kf; replace kz := Nat.lt_of_lt_of_le kz hB.size; have sw4 := hB.size; replace hW := up_trans hW hB; clear hB
  clear hb RY hB4 FI FS
  rcases hcase with ⟨_, rfl, rfl, rfl, rfl⟩ | ⟨hn1, rfl, rfl, rfl, rfl⟩ | ⟨rfl, hlen, h29, hap, hg2, hbk, hfo⟩
  · simp only [List.length_nil] at RX xc ⊢
    go_wp2_with fail
    refine (alive_any _).mono ?_
    rintro e w5 ⟨rfl, rfl⟩
    go_wp2_with fail
    go_ret
    exact ⟨rfl, hW⟩
  · have i3 : ((ms2.length : Int) == 0) = false := beq_eq_false_iff_ne.2 (by omega)
    go_wp2_with fail
    refine (sameHistory_same _ _ ms2 a2 _ RX.out HH.out).mono ?_
    rintro e w5 ⟨rfl, hb⟩
    replace hW := up_trans hW hb
    clear hb
    go_wp2_with fail
    refine (alive_any _).mono ?_
    rintro e w6 ⟨rfl, rfl⟩
    go_wp2_with fail
    go_ret
    exact ⟨rfl, hW⟩
  · obtain ⟨o, hg2⟩ := hg2
    have BK := Lib.hid hbk
    have FO := Lib.hid hfo
    have G2 := Lib.hid hg2
    have AP := Lib.hid (fun w' => implApplyChange_any s qa qc ct w' (by unfold maxLen; omega) (by omega))
    unfold AcPost chV at AP
    rw [hap] at AP
    have l1 : IntKind.i64.wrap ((ms.length : Int) + 1) = (ms.length : Int) + 1 := IntWalk.i64_in _ (by omega)
    have l2 : ((ms2.length : Int) == (ms.length : Int) + 1) = true := by rw [hlen]; simp
    have HL := Lib.hid hlen
    generalize chOk s qa qc ct = cok at AP
    clear hbk hg2 hfo hap hlen
    go_wp2_with fail
    refine (BK.out _ _ RX.out).mono ?_
    rintro e w5 ⟨bv, rfl, ho5, hb⟩
    replace HH := RdM.hup HH hb
    replace RX := RdM.hup RX hb
    have hB : Below w4.heap.size w4 w5 := (by (repeat (first | exact Below.refl _ _ | assumption | refine Below.drew ?_ | refine up_drewN ?_ _ | refine up_alloc ?_ _ | refine up_set ?_ _ _ (by first | exact Nat.le_refl _ | (simp; done) | (simp; omega) | omega) | refine up_trans ?_ (by assumption)))); replace hc := up_c hB hz hc; replace hf := up_f hB hz hf; replace hz := Nat.lt_of_lt_of_le hz hB.size; replace xc := up_c hB xz xc; replace xf := up_f hB xz xf; replace xz := Nat.lt_of_lt_of_le xz hB.size; replace kc := up_c hB kz kc; replace kf := up_f hB kz kf; replace kz := Nat.lt_of_lt_of_le kz hB.size; have sw5 := hB.size; replace hW := up_trans hW hB; clear hB
    have RB := Lib.hid (rdM_puts ho5 hp2 (Nat.le_refl _))
    obtain ⟨BA, BC, rfl, -, -⟩ := (RdL.of_own (f := moC) (bs := ms2) ho5).form
    clear hb ho5
    go_wp2_with fail
    refine (FO.out _ _ (RB.out.up (by (repeat (first | exact Below.refl _ _ | assumption | refine Below.drew ?_ | refine up_drewN ?_ _ | refine up_alloc ?_ _ | refine up_set ?_ _ _ (by first | exact Nat.le_refl _ | (simp; done) | (simp; omega) | omega) | refine up_trans ?_ (by assumption)))))).mono ?_
    rintro e w6 ⟨fv, rfl, ho6, hb⟩
    have hB6 : Below w5.heap.size w5 w6 := by (repeat (first | exact Below.refl _ _ | assumption | refine Below.drew ?_ | refine up_drewN ?_ _ | refine up_alloc ?_ _ | refine up_set ?_ _ _ (by first | exact Nat.le_refl _ | (simp; done) | (simp; omega) | omega) | refine up_trans ?_ (by assumption)))
    replace RX := RdM.hup RX hB6
    have hB : Below w5.heap.size w5 w6 := (by (repeat (first | exact Below.refl _ _ | assumption | refine Below.drew ?_ | refine up_drewN ?_ _ | refine up_alloc ?_ _ | refine up_set ?_ _ _ (by first | exact Nat.le_refl _ | (simp; done) | (simp; omega) | omega) | refine up_trans ?_ (by assumption)))); replace hc := up_c hB hz hc; replace hf := up_f hB hz hf; replace hz := Nat.lt_of_lt_of_le hz hB.size; replace xc := up_c hB xz xc; replace xf := up_f hB xz xf; replace xz := Nat.lt_of_lt_of_le xz hB.size; replace kc := up_c hB kz kc; replace kf := up_f hB kz kf; replace kz := Nat.lt_of_lt_of_le kz hB.size; have sw6 := hB.size; replace hW := up_trans hW hB; clear hB
    have RF := Lib.hid (rdM_puts ho6 hp2 (Nat.le_refl _))
    obtain ⟨FA, FC, rfl, -, -⟩ := (RdL.of_own (f := moC) (bs := ms2) ho6).form
    have sb1 : ¬ w6.heap.size = w2.heap.size := by omega
    have sb2 : ¬ w6.heap.size = w1.heap.size := by omega
    have sb3 : ¬ w6.heap.size = w1.heap.size + 1 := by omega
    clear hb ho6 hB6 RB HH
    go_wp2_with fail
    refine (AP.out _).mono ?_
    rintro e w7 ⟨rfl, hb⟩
    have fc : ∀ o, w7.cell? ⟨w6.heap.size, o, none⟩ = #[.slice FA ms2.length FC, .int .i64 a2][o]? := (fun o => (hb.cell (p := ⟨w6.heap.size, o, none⟩) (by simp <;> omega)).trans (by simp [go_sem])); have ff : ∀ o, w7.frozen? ⟨w6.heap.size, o, none⟩ = false := (fun o => (hb.frozen (p := ⟨w6.heap.size, o, none⟩) (by simp <;> omega)).trans (by simp [go_sem])); have fz : w6.heap.size < w7.heap.size := (by have := hb.size; (try simp at this); omega); have fy := fz
    have hB7 : Below w6.heap.size w6 w7 := by (repeat (first | exact Below.refl _ _ | assumption | refine Below.drew ?_ | refine up_drewN ?_ _ | refine up_alloc ?_ _ | refine up_set ?_ _ _ (by first | exact Nat.le_refl _ | (simp; done) | (simp; omega) | omega) | refine up_trans ?_ (by assumption)))
    replace RX := RdM.hup RX hB7
    replace RF := RdM.hup RF hB7
    have hB : Below w6.heap.size w6 w7 := (by (repeat (first | exact Below.refl _ _ | assumption | refine Below.drew ?_ | refine up_drewN ?_ _ | refine up_alloc ?_ _ | refine up_set ?_ _ _ (by first | exact Nat.le_refl _ | (simp; done) | (simp; omega) | omega) | refine up_trans ?_ (by assumption)))); replace hc := up_c hB hz hc; replace hf := up_f hB hz hf; replace hz := Nat.lt_of_lt_of_le hz hB.size; replace xc := up_c hB xz xc; replace xf := up_f hB xz xf; replace xz := Nat.lt_of_lt_of_le xz hB.size; have sw7 := hB.size; replace hW := up_trans hW hB; clear hB
    clear hb hB7 kc kf kz ky
    go_wp2_with fail
    refine (implValid_yes _ ms2 a2 t2 o _ RX.out G2.out).mono ?_
    rintro e w8 ⟨rfl, hb⟩
    replace RX := RdM.hup RX hb
    replace RF := RdM.hup RF hb
    have hB : Below w7.heap.size w7 w8 := (by (repeat (first | exact Below.refl _ _ | assumption | refine Below.drew ?_ | refine up_drewN ?_ _ | refine up_alloc ?_ _ | refine up_set ?_ _ _ (by first | exact Nat.le_refl _ | (simp; done) | (simp; omega) | omega) | refine up_trans ?_ (by assumption)))); replace hc := up_c hB hz hc; replace hf := up_f hB hz hf; replace hz := Nat.lt_of_lt_of_le hz hB.size; replace xc := up_c hB xz xc; replace xf := up_f hB xz xf; replace xz := Nat.lt_of_lt_of_le xz hB.size; replace fc := up_c hB fz fc; replace ff := up_f hB fz ff; replace fz := Nat.lt_of_lt_of_le fz hB.size; have sw8 := hB.size; replace hW := up_trans hW hB; clear hB
    clear hb
    go_wp2_with fail
    refine (sameHistory_same _ _ ms2 a2 _ RF.out RX.out).mono ?_
    rintro e w9 ⟨rfl, hb⟩
    have hB : Below w8.heap.size w8 w9 := (by (repeat (first | exact Below.refl _ _ | assumption | refine Below.drew ?_ | refine up_drewN ?_ _ | refine up_alloc ?_ _ | refine up_set ?_ _ _ (by first | exact Nat.le_refl _ | (simp; done) | (simp; omega) | omega) | refine up_trans ?_ (by assumption)))); replace hc := up_c hB hz hc; replace hf := up_f hB hz hf; replace hz := Nat.lt_of_lt_of_le hz hB.size; replace xc := up_c hB xz xc; replace xf := up_f hB xz xf; replace xz := Nat.lt_of_lt_of_le xz hB.size; have sw9 := hB.size; replace hW := up_trans hW hB; clear hB
    clear hb RF RX
    go_wp2_with fail
    go_ret
    exact ⟨rfl, hW⟩

end Go.Proofs.Ytjcdklkdpcncgaa
