/- What is proved here: the walk of the law FnTableChange. No condition. -/
import Derived.Test.YtlejfmngpbcdhaaLTab0
import Derived.Test.YtlejfmngpbcdhaaAlive
import Derived.Test.YtlejfmngpbcdhaaChg1
namespace Go.Proofs.Ytlejfmngpbcdhaa
open Go.RowKit
set_option linter.unusedVariables false

set_option maxRecDepth 100000 in
set_option maxHeartbeats 4000000 in
theorem tableChange_walk (v : Value) (n : Nat) (zs : List Int) (w : World) (h : Bytes w w.heap.size v n zs) :
    Calls Try.prog 6 #[v] w fun e w' => e = .returned (.bool true) ∧ Below w.heap.size w w' := by
  have h' := h
  obtain ⟨h1, h2, A0, c0, rfl, h3, h4, h5⟩ := h
  clear h5 h2 h1 h4
  by_cases hn : n ≤ 1048576
  case neg =>
    go_enter Try.func6, Try.ntmps6
    go_wp2_with fail
    go_ret
    exact ⟨rfl, Below.refl _ _⟩
  have hW := Below.refl w.heap.size w
  go_enter Try.func6, Try.ntmps6
  go_wp2_with fail
  refine (drawTableChange_any _ n zs _ (h'.to (by (repeat (first | exact Below.refl _ _ | assumption | refine Below.drew ?_ | refine up_drewN ?_ _ | refine up_alloc ?_ _ | refine up_set ?_ _ _ (by first | exact Nat.le_refl _ | (simp; done) | (simp; omega) | omega) | refine up_trans ?_ (by assumption)))))).mono ?_
  rintro e w1 ⟨f, m, ps, u, qa, qc, ct, rfl, hsm, hct, H, hb⟩
  unfold tbAgg
  have hB : Below w.heap.size w w1 := (by (repeat (first | exact Below.refl _ _ | assumption | refine Below.drew ?_ | refine up_drewN ?_ _ | refine up_alloc ?_ _ | refine up_set ?_ _ _ (by first | exact Nat.le_refl _ | (simp; done) | (simp; omega) | omega) | refine up_trans ?_ (by assumption)))); have sw1 := hB.size; replace hW := up_trans hW hB; clear hB
  obtain ⟨A, c, rfl, -, -⟩ := H.form
  have HH := Lib.hid H
  obtain ⟨f2, m2, p2, ok, hs2, fI, fS, hcase⟩ := tc_out f m ps ⟨qa, qc, ct⟩ hsm (by show ct.length ≤ _; omega)
  have FI := Lib.hid fI
  have FS := Lib.hid fS
  obtain ⟨hsm1, hsm2, hsm3⟩ := hsm
  clear hb h' H fI fS
  unfold tbAgg chAgg at FI FS
  simp only at FI FS
  go_wp2_with fail
  refine (FI.out _ _ (HH.out.up (by (repeat (first | exact Below.refl _ _ | assumption | refine Below.drew ?_ | refine up_drewN ?_ _ | refine up_alloc ?_ _ | refine up_set ?_ _ _ (by first | exact Nat.le_refl _ | (simp; done) | (simp; omega) | omega) | refine up_trans ?_ (by assumption)))))).mono ?_
  rintro e w2 ⟨xv, rfl, ho2, hb⟩
  unfold tbAgg
  have hc : ∀ o, w2.cell? ⟨w1.heap.size, o, none⟩ = #[S f, S m, .slice A ps.length c][o]? := (fun o => (hb.cell (p := ⟨w1.heap.size, o, none⟩) (by simp <;> omega)).trans (by simp [go_sem])); have hf : ∀ o, w2.frozen? ⟨w1.heap.size, o, none⟩ = false := (fun o => (hb.frozen (p := ⟨w1.heap.size, o, none⟩) (by simp <;> omega)).trans (by simp [go_sem])); have hz : w1.heap.size < w2.heap.size := (by have := hb.size; (try simp at this); omega); have hy := hz
  have kc : ∀ o, w2.cell? ⟨w1.heap.size + 1, o, none⟩ = #[.int .i64 qa, .int .i64 qc, S ct][o]? := (fun o => (hb.cell (p := ⟨w1.heap.size + 1, o, none⟩) (by simp <;> omega)).trans (by simp [go_sem])); have kf : ∀ o, w2.frozen? ⟨w1.heap.size + 1, o, none⟩ = false := (fun o => (hb.frozen (p := ⟨w1.heap.size + 1, o, none⟩) (by simp <;> omega)).trans (by simp [go_sem])); have kz : w1.heap.size + 1 < w2.heap.size := (by have := hb.size; (try simp at this); omega); have ky := kz
  replace HH := Lib.hid (HH.out.up (show Below w1.heap.size w1 w2 by (repeat (first | exact Below.refl _ _ | assumption | refine Below.drew ?_ | refine up_drewN ?_ _ | refine up_alloc ?_ _ | refine up_set ?_ _ _ (by first | exact Nat.le_refl _ | (simp; done) | (simp; omega) | omega) | refine up_trans ?_ (by assumption)))))
  have hB : Below w1.heap.size w1 w2 := (by (repeat (first | exact Below.refl _ _ | assumption | refine Below.drew ?_ | refine up_drewN ?_ _ | refine up_alloc ?_ _ | refine up_set ?_ _ _ (by first | exact Nat.le_refl _ | (simp; done) | (simp; omega) | omega) | refine up_trans ?_ (by assumption)))); have sw2 := hB.size; replace hW := up_trans hW hB; clear hB
  have RX := Lib.hid (RdL.of_own (f := pcC) (bs := p2) ho2)
  obtain ⟨XA, XC, rfl, -, -⟩ := RX.out.form
  clear hb ho2
  go_wp2_with fail
  refine (FS.out _ _ (HH.out.up (by (repeat (first | exact Below.refl _ _ | assumption | refine Below.drew ?_ | refine up_drewN ?_ _ | refine up_alloc ?_ _ | refine up_set ?_ _ _ (by first | exact Nat.le_refl _ | (simp; done) | (simp; omega) | omega) | refine up_trans ?_ (by assumption)))))).mono ?_
  rintro e w3 ⟨yv, rfl, ho3, hb⟩
  unfold tbAgg
  have xc : ∀ o, w3.cell? ⟨w2.heap.size, o, none⟩ = #[S f2, S m2, .slice XA p2.length XC][o]? := (fun o => (hb.cell (p := ⟨w2.heap.size, o, none⟩) (by simp <;> omega)).trans (by simp [go_sem])); have xf : ∀ o, w3.frozen? ⟨w2.heap.size, o, none⟩ = false := (fun o => (hb.frozen (p := ⟨w2.heap.size, o, none⟩) (by simp <;> omega)).trans (by simp [go_sem])); have xz : w2.heap.size < w3.heap.size := (by have := hb.size; (try simp at this); omega); have xy := xz
  have hB3 : Below w2.heap.size w2 w3 := by (repeat (first | exact Below.refl _ _ | assumption | refine Below.drew ?_ | refine up_drewN ?_ _ | refine up_alloc ?_ _ | refine up_set ?_ _ _ (by first | exact Nat.le_refl _ | (simp; done) | (simp; omega) | omega) | refine up_trans ?_ (by assumption)))
  replace HH := Lib.hid (HH.out.up hB3)
  replace RX := Lib.hid (RX.out.up hB3)
  have hB : Below w2.heap.size w2 w3 := (by (repeat (first | exact Below.refl _ _ | assumption | refine Below.drew ?_ | refine up_drewN ?_ _ | refine up_alloc ?_ _ | refine up_set ?_ _ _ (by first | exact Nat.le_refl _ | (simp; done) | (simp; omega) | omega) | refine up_trans ?_ (by assumption)))); replace hc := up_c hB hz hc; replace hf := up_f hB hz hf; replace hz := Nat.lt_of_lt_of_le hz hB.size; replace kc := up_c hB kz kc; replace kf := up_f hB kz kf; replace kz := Nat.lt_of_lt_of_le kz hB.size; have sw3 := hB.size; replace hW := up_trans hW hB; clear hB
  have RY := Lib.hid (RdL.of_own (f := pcC) (bs := p2) ho3)
  obtain ⟨YA, YC, rfl, -, -⟩ := RY.out.form
  have sx : ¬ w3.heap.size = w2.heap.size := by omega
  have sx' : ¬ w2.heap.size = w3.heap.size := by omega
  clear hb ho3 hB3
  go_wp2_with fail
  refine (samePieces_same f2 m2 _ _ p2 _ (RX.out.up (by (repeat (first | exact Below.refl _ _ | assumption | refine Below.drew ?_ | refine up_drewN ?_ _ | refine up_alloc ?_ _ | refine up_set ?_ _ _ (by first | exact Nat.le_refl _ | (simp; done) | (simp; omega) | omega) | refine up_trans ?_ (by assumption))))) (RY.out.up (by (repeat (first | exact Below.refl _ _ | assumption | refine Below.drew ?_ | refine up_drewN ?_ _ | refine up_alloc ?_ _ | refine up_set ?_ _ _ (by first | exact Nat.le_refl _ | (simp; done) | (simp; omega) | omega) | refine up_trans ?_ (by assumption)))))).mono ?_
  rintro e w4 ⟨rfl, hb⟩
  have hB4 : Below w3.heap.size w3 w4 := by (repeat (first | exact Below.refl _ _ | assumption | refine Below.drew ?_ | refine up_drewN ?_ _ | refine up_alloc ?_ _ | refine up_set ?_ _ _ (by first | exact Nat.le_refl _ | (simp; done) | (simp; omega) | omega) | refine up_trans ?_ (by assumption)))
  replace HH := Lib.hid (HH.out.up hB4)
  replace RX := Lib.hid (RX.out.up hB4)
  have hB : Below w3.heap.size w3 w4 := (by (repeat (first | exact Below.refl _ _ | assumption | refine Below.drew ?_ | refine up_drewN ?_ _ | refine up_alloc ?_ _ | refine up_set ?_ _ _ (by first | exact Nat.le_refl _ | (simp; done) | (simp; omega) | omega) | refine up_trans ?_ (by assumption)))); replace hc := up_c hB hz hc; replace hf := up_f hB hz hf; replace hz := Nat.lt_of_lt_of_le hz hB.size; replace xc := up_c hB xz xc; replace xf := up_f hB xz xf; replace xz := Nat.lt_of_lt_of_le xz hB.size; replace kc := up_c hB kz kc; replace kf := up_f hB kz kf; replace kz := Nat.lt_of_lt_of_le kz hB.size; have sw4 := hB.size; replace hW := up_trans hW hB; clear hB
  clear hb RY hB4 FI FS sx sx'
  have HC := Lib.hid hcase
  clear hcase
  rcases HC.out with ⟨_, rfl, rfl, rfl, rfl⟩ | ⟨hv, rfl, rfl, rfl, rfl, _⟩ | ⟨hv, hok, h400, rfl, rfl, rfl, hv2, ht2, hl2⟩
  · clear HC
    go_wp2_with fail
    refine (alive_any _).mono ?_
    rintro e w5 ⟨rfl, rfl⟩
    go_wp2_with fail
    go_ret
    exact ⟨rfl, hW⟩
  · clear HC hv
    by_cases hf0 : f2 = []
    · subst hf0
      go_wp2_with fail
      refine (alive_any _).mono ?_
      rintro e w5 ⟨rfl, rfl⟩
      go_wp2_with fail
      go_ret
      exact ⟨rfl, hW⟩
    · have he : f2.isEmpty = false := by rw [← Bool.not_eq_true, List.isEmpty_iff]; exact hf0
      go_wp2_with fail
      refine (samePieces_same f2 m2 _ _ p2 _ RX.out HH.out).mono ?_
      rintro e w5 ⟨rfl, hb⟩
      replace hW := up_trans hW hb
      clear hb
      go_wp2_with fail
      refine (alive_any _).mono ?_
      rintro e w6 ⟨rfl, rfl⟩
      go_wp2_with fail
      go_ret
      exact ⟨rfl, hW⟩
  · clear HC
    obtain ⟨-, hf1, hm1, -, -, -⟩ := tbB_out hv
    have hT := Lib.hid (fun w' (hb : Below w4.heap.size w4 w') => implTableText_yes f2 m _ ps w' (HH.out.up hb) hv)
    have hsl := tv_len (tbT_tv hv)
    have hap := Lib.hid (show apTo (tbT f2 m ps) qa qc ct = apF (tbT f2 m ps) ⟨qa, qc, ct⟩ from apTo_ok (x := ⟨qa, qc, ct⟩) hok)
    have hok2 : chOk (tbT f2 m ps) qa qc ct = true := hok
    have AP := Lib.hid (fun w' => implApplyChange_any (tbT f2 m ps) qa qc ct w' (by unfold maxLen; omega) (by omega))
    unfold AcPost chV at AP
    rw [hap.out, hok2] at AP
    have V2 := Lib.hid (fun w' (hb : Below w4.heap.size w4 w') => implTableValid_any f2 (m ++ ct) _ p2 w' (RX.out.up hb) (by unfold maxLen; omega) (by unfold maxLen; simp; omega))
    rw [hv2] at V2
    have T2 := Lib.hid (fun w' (hb : Below w4.heap.size w4 w') => implTableText_yes f2 (m ++ ct) _ p2 w' (RX.out.up hb) hv2)
    rw [ht2] at T2
    generalize apF (tbT f2 m ps) ⟨qa, qc, ct⟩ = s2 at *
    generalize tbT f2 m ps = s at *
    clear hv hok hok2 hap hv2 ht2 HH RX
    have hcl : ¬ 9223372036854775807 < m.length + ct.length := by omega
    have l1 : IntKind.i64.wrap ((ps.length : Int) + 2) = (ps.length : Int) + 2 := IntWalk.i64_in _ (by omega)
    have l2 : (p2.length : Int) ≤ (ps.length : Int) + 2 := by omega
    unfold tbAgg at hT T2 V2
    have hne := UpW.nonempty w4
    have C1 := Lib.hid (fun y : UpW w4 => calls_up (hT.out (y.at w4) y.2))
    have C2 := Lib.hid (fun y : UpW w4 => calls_up (AP.out (y.at w4)))
    clear hT AP
    go_upto_region 10 with (fail)
    refine wp_region_up_lit (by kernel_rfl) (by kernel_rfl) ?_
    repeat (go_big_quiet_step (first | (go_at_call 30; exact C1.out _) | (go_at_call 29; exact C2.out _)))
    refine wpQuiet_nil ?_
    intro w5 hb
    replace hb := UpW.out hb
    have hB5 := hb
    have hW5 := hW
    have hB : Below w4.heap.size w4 w5 := (by (repeat (first | exact Below.refl _ _ | assumption | refine Below.drew ?_ | refine up_drewN ?_ _ | refine up_alloc ?_ _ | refine up_set ?_ _ _ (by first | exact Nat.le_refl _ | (simp; done) | (simp; omega) | omega) | refine up_trans ?_ (by assumption)))); replace hc := up_c hB hz hc; replace hf := up_f hB hz hf; replace hz := Nat.lt_of_lt_of_le hz hB.size; replace xc := up_c hB xz xc; replace xf := up_f hB xz xf; replace xz := Nat.lt_of_lt_of_le xz hB.size; replace kc := up_c hB kz kc; replace kf := up_f hB kz kf; replace kz := Nat.lt_of_lt_of_le kz hB.size; have sw5 := hB.size; replace hW := up_trans hW hB; clear hB
    clear hne C1 C2 hb
    go_wp2_with fail
    refine (V2.out _ hB5).mono ?_
    rintro e w6 ⟨rfl, hb⟩
    have hB6 := up_trans hB5 hb
    have hB : Below w5.heap.size w5 w6 := (by (repeat (first | exact Below.refl _ _ | assumption | refine Below.drew ?_ | refine up_drewN ?_ _ | refine up_alloc ?_ _ | refine up_set ?_ _ _ (by first | exact Nat.le_refl _ | (simp; done) | (simp; omega) | omega) | refine up_trans ?_ (by assumption)))); replace hc := up_c hB hz hc; replace hf := up_f hB hz hf; replace hz := Nat.lt_of_lt_of_le hz hB.size; replace xc := up_c hB xz xc; replace xf := up_f hB xz xf; replace xz := Nat.lt_of_lt_of_le xz hB.size; replace kc := up_c hB kz kc; replace kf := up_f hB kz kf; replace kz := Nat.lt_of_lt_of_le kz hB.size; have sw6 := hB.size; replace hW := up_trans hW hB; clear hB
    clear hb hB5 V2
    go_wp2_with fail
    refine (T2.out _ hB6).mono ?_
    rintro e w7 ⟨rfl, hb⟩
    have hB : Below w6.heap.size w6 w7 := (by (repeat (first | exact Below.refl _ _ | assumption | refine Below.drew ?_ | refine up_drewN ?_ _ | refine up_alloc ?_ _ | refine up_set ?_ _ _ (by first | exact Nat.le_refl _ | (simp; done) | (simp; omega) | omega) | refine up_trans ?_ (by assumption)))); replace hc := up_c hB hz hc; replace hf := up_f hB hz hf; replace hz := Nat.lt_of_lt_of_le hz hB.size; replace xc := up_c hB xz xc; replace xf := up_f hB xz xf; replace xz := Nat.lt_of_lt_of_le xz hB.size; replace kc := up_c hB kz kc; replace kf := up_f hB kz kf; replace kz := Nat.lt_of_lt_of_le kz hB.size; have sw7 := hB.size; replace hW := up_trans hW hB; clear hB
    clear hb hB6 T2
    go_wp2_with fail
    go_ret
    exact ⟨rfl, hW⟩

end Go.Proofs.Ytlejfmngpbcdhaa
