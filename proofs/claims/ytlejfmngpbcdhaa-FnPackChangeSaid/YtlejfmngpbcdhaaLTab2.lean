/- What is proved here: the walk of the law FnPackChange. No condition. -/
import Derived.Test.YtlejfmngpbcdhaaLTab0
import Derived.Test.YtlejfmngpbcdhaaTabK
import Derived.Test.YtlejfmngpbcdhaaAlive
import Derived.Test.YtlejfmngpbcdhaaEverX
namespace Go.Proofs.Ytlejfmngpbcdhaa
open Go.RowKit
set_option linter.unusedVariables false

def XT (f2 m2 : List UInt8) (p2 : List Pc) : Bxp := ⟨48, 79, 3, p2.length, p2.flatMap pcC, fun v => #[S f2, S m2, v], 3, by decide, fun _ => rfl⟩
theorem xt_ne (f2 m2 : List UInt8) (p2 : List Pc) : 79 ≠ (XT f2 m2 p2).bt := show (79 : TypeId) ≠ 48 by decide

set_option maxRecDepth 100000 in
set_option maxHeartbeats 4000000 in
theorem packChange_walk (v : Value) (n : Nat) (zs : List Int) (w : World) (h : Bytes w w.heap.size v n zs) :
    Calls Try.prog 7 #[v] w fun e w' => e = .returned (.bool true) ∧ Below w.heap.size w w' := by
  have h' := h
  obtain ⟨h1, h2, A0, c0, rfl, h3, h4, h5⟩ := h
  clear h5 h2 h1 h4
  by_cases hn : n ≤ 1048576
  case neg =>
    go_enter Try.func7, Try.ntmps7
    go_wp2_with fail
    go_ret
    exact ⟨rfl, Below.refl _ _⟩
  have hW := Below.refl w.heap.size w
  go_enter Try.func7, Try.ntmps7
  go_wp2_with fail
  refine (drawTableChange_any _ n zs _ (h'.to (by (repeat (first | exact Below.refl _ _ | assumption | refine Below.drew ?_ | refine up_drewN ?_ _ | refine up_alloc ?_ _ | refine up_set ?_ _ _ (by first | exact Nat.le_refl _ | (simp; done) | (simp; omega) | omega) | refine up_trans ?_ (by assumption)))))).mono ?_
  rintro e w1 ⟨f, m, ps, u, qa, qc, ct, rfl, hsm, hct, H, hb⟩
  unfold tbAgg
  have hB : Below w.heap.size w w1 := (by (repeat (first | exact Below.refl _ _ | assumption | refine Below.drew ?_ | refine up_drewN ?_ _ | refine up_alloc ?_ _ | refine up_set ?_ _ _ (by first | exact Nat.le_refl _ | (simp; done) | (simp; omega) | omega) | refine up_trans ?_ (by assumption)))); have sw1 := hB.size; replace hW := up_trans hW hB; clear hB
  obtain ⟨A, c, rfl, -, -⟩ := H.form
  have HH := Lib.hid H
  obtain ⟨f2, m2, p2, ok, hs2, fI, fS, hcase⟩ := tc_out f m ps ⟨qa, qc, ct⟩ hsm (by show ct.length ≤ _; omega)
  have FI := Lib.hid fI
  have FS := Lib.hid fS
  have HSM := Lib.hid hsm
  obtain ⟨hsm1, hsm2, hsm3⟩ := hsm
  clear hb h' H fI fS
  unfold tbAgg chAgg at FI FS
  simp only at FI FS
  go_wp2_with fail
  refine (FI.out _ _ (HH.out.up (by (repeat (first | exact Below.refl _ _ | assumption | refine Below.drew ?_ | refine up_drewN ?_ _ | refine up_alloc ?_ _ | refine up_set ?_ _ _ (by first | exact Nat.le_refl _ | (simp; done) | (simp; omega) | omega) | refine up_trans ?_ (by assumption)))))).mono ?_
  rintro e w2 ⟨xv, rfl, ho2, hb⟩
  unfold tbAgg
  have hc : ∀ o, w2.cell? ⟨w1.heap.size, o, none⟩ = #[S f, S m, .slice A ps.length c][o]? := (fun o => (hb.cell (p := ⟨w1.heap.size, o, none⟩) (by simp <;> omega)).trans (by simp [go_sem])); have hf : ∀ o, w2.frozen? ⟨w1.heap.size, o, none⟩ = false := (fun o => (hb.frozen (p := ⟨w1.heap.size, o, none⟩) (by simp <;> omega)).trans (by simp [go_sem])); have hz : w1.heap.size < w2.heap.size := (by have := hb.size; (try simp at this); omega); have hy := hz
  have kc : ∀ o, w2.cell? ⟨w1.heap.size + 1, o, none⟩ = #[.int .i64 qa, .int .i64 qc, S ct][o]? := (fun o => (hb.cell (p := ⟨w1.heap.size + 1, o, none⟩) (by simp <;> omega)).trans (by simp [go_sem])); have kf : ∀ o, w2.frozen? ⟨w1.heap.size + 1, o, none⟩ = false := (fun o => (hb.frozen (p := ⟨w1.heap.size + 1, o, none⟩) (by simp <;> omega)).trans (by simp [go_sem])); have kz : w1.heap.size + 1 < w2.heap.size := (by have := hb.size; (try simp at this); omega); have ky := kz
  replace HH := Lib.hid (HH.out.up (show Below w1.heap.size w1 w2 by (repeat (first | exact Below.refl _ _ | assumption | refine Below.drew ?_ | refine up_drewN ?_ _ | refine up_alloc ?_ _ | refine up_set ?_ _ _ (by first | exact Nat.le_refl _ | (simp; done) | (simp; omega) | omega) | refine up_trans ?_ (by assumption)))))
  have hB : Below w1.heap.size w1 w2 := (by (repeat (first | exact Below.refl _ _ | assumption | refine Below.drew ?_ | refine up_drewN ?_ _ | refine up_alloc ?_ _ | refine up_set ?_ _ _ (by first | exact Nat.le_refl _ | (simp; done) | (simp; omega) | omega) | refine up_trans ?_ (by assumption)))); have sw2 := hB.size; replace hW := up_trans hW hB; clear hB
  have RP := Lib.hid (RdL.of_own (f := pcC) (bs := p2) ho2)
  obtain ⟨XA, XC, rfl, -, -⟩ := RP.out.form
  clear hb ho2
  go_wp2_with fail
  refine (FS.out _ _ (HH.out.up (by (repeat (first | exact Below.refl _ _ | assumption | refine Below.drew ?_ | refine up_drewN ?_ _ | refine up_alloc ?_ _ | refine up_set ?_ _ _ (by first | exact Nat.le_refl _ | (simp; done) | (simp; omega) | omega) | refine up_trans ?_ (by assumption)))))).mono ?_
  rintro e w3 ⟨yv, rfl, ho3, hb⟩
  unfold tbAgg
  have xc : ∀ o, w3.cell? ⟨w2.heap.size, o, none⟩ = #[S f2, S m2, .slice XA p2.length XC][o]? := (fun o => (hb.cell (p := ⟨w2.heap.size, o, none⟩) (by simp <;> omega)).trans (by simp [go_sem])); have xf : ∀ o, w3.frozen? ⟨w2.heap.size, o, none⟩ = false := (fun o => (hb.frozen (p := ⟨w2.heap.size, o, none⟩) (by simp <;> omega)).trans (by simp [go_sem])); have xz : w2.heap.size < w3.heap.size := (by have := hb.size; (try simp at this); omega); have xy := xz
  have hB3 : Below w2.heap.size w2 w3 := by (repeat (first | exact Below.refl _ _ | assumption | refine Below.drew ?_ | refine up_drewN ?_ _ | refine up_alloc ?_ _ | refine up_set ?_ _ _ (by first | exact Nat.le_refl _ | (simp; done) | (simp; omega) | omega) | refine up_trans ?_ (by assumption)))
  replace HH := Lib.hid (HH.out.up hB3)
  replace RP := Lib.hid (RP.out.up hB3)
  have hB : Below w2.heap.size w2 w3 := (by (repeat (first | exact Below.refl _ _ | assumption | refine Below.drew ?_ | refine up_drewN ?_ _ | refine up_alloc ?_ _ | refine up_set ?_ _ _ (by first | exact Nat.le_refl _ | (simp; done) | (simp; omega) | omega) | refine up_trans ?_ (by assumption)))); replace hc := up_c hB hz hc; replace hf := up_f hB hz hf; replace hz := Nat.lt_of_lt_of_le hz hB.size; replace kc := up_c hB kz kc; replace kf := up_f hB kz kf; replace kz := Nat.lt_of_lt_of_le kz hB.size; have sw3 := hB.size; replace hW := up_trans hW hB; clear hB
  have RY := Lib.hid (RdL.of_own (f := pcC) (bs := p2) ho3)
  obtain ⟨YA, YC, rfl, -, -⟩ := RY.out.form
  have sx : ¬ w3.heap.size = w2.heap.size := by omega
  have sx' : ¬ w2.heap.size = w3.heap.size := by omega
  clear hb ho3 hB3
  go_wp2_with fail
  refine (samePieces_same f2 m2 _ _ p2 _ (RP.out.up (by (repeat (first | exact Below.refl _ _ | assumption | refine Below.drew ?_ | refine up_drewN ?_ _ | refine up_alloc ?_ _ | refine up_set ?_ _ _ (by first | exact Nat.le_refl _ | (simp; done) | (simp; omega) | omega) | refine up_trans ?_ (by assumption))))) (RY.out.up (by (repeat (first | exact Below.refl _ _ | assumption | refine Below.drew ?_ | refine up_drewN ?_ _ | refine up_alloc ?_ _ | refine up_set ?_ _ _ (by first | exact Nat.le_refl _ | (simp; done) | (simp; omega) | omega) | refine up_trans ?_ (by assumption)))))).mono ?_
  rintro e w4 ⟨rfl, hb⟩
  have hB4 : Below w3.heap.size w3 w4 := by (repeat (first | exact Below.refl _ _ | assumption | refine Below.drew ?_ | refine up_drewN ?_ _ | refine up_alloc ?_ _ | refine up_set ?_ _ _ (by first | exact Nat.le_refl _ | (simp; done) | (simp; omega) | omega) | refine up_trans ?_ (by assumption)))
  replace HH := Lib.hid (HH.out.up hB4)
  replace RP := Lib.hid (RP.out.up hB4)
  have hB : Below w3.heap.size w3 w4 := (by (repeat (first | exact Below.refl _ _ | assumption | refine Below.drew ?_ | refine up_drewN ?_ _ | refine up_alloc ?_ _ | refine up_set ?_ _ _ (by first | exact Nat.le_refl _ | (simp; done) | (simp; omega) | omega) | refine up_trans ?_ (by assumption)))); replace hc := up_c hB hz hc; replace hf := up_f hB hz hf; replace hz := Nat.lt_of_lt_of_le hz hB.size; replace xc := up_c hB xz xc; replace xf := up_f hB xz xf; replace xz := Nat.lt_of_lt_of_le xz hB.size; replace kc := up_c hB kz kc; replace kf := up_f hB kz kf; replace kz := Nat.lt_of_lt_of_le kz hB.size; have sw4 := hB.size; replace hW := up_trans hW hB; clear hB
  clear hb RY hB4 FI FS sx sx'
  have VV := Lib.hid (specTableValid_any f m _ ps w4 HH.out hsm1 hsm2)
  have HC := Lib.hid hcase
  clear hcase
  rcases HC.out with ⟨hv, rfl, rfl, rfl, rfl⟩ | ⟨hv, h2⟩ | ⟨hv, h2⟩
  · clear HC
    rw [hv] at VV
    unfold tbAgg at VV
    clear hv
    go_wp2_with fail
    refine VV.out.mono ?_
    rintro e w5 ⟨rfl, hb⟩
    replace hW := up_trans hW hb
    clear hb VV
    go_wp2_with fail
    refine (alive_any _).mono ?_
    rintro e w6 ⟨rfl, rfl⟩
    go_wp2_with fail
    go_ret
    exact ⟨rfl, hW⟩
  all_goals
    clear h2
    obtain ⟨q1, q2, q3⟩ := pkF_ok hv
    have PK1 := Lib.hid (fun w' (h : RdP w' (.slice A ps.length c) ps) => implTablePack_yes f m _ ps w' h hv)
    unfold PackPost at PK1
    rw [hv] at VV
    unfold tbAgg at VV PK1
    obtain ⟨qs, hqs⟩ : ∃ qs, qs = pkF ps := ⟨_, rfl⟩
    rw [← hqs] at PK1 q1 q2 q3
    obtain ⟨f3, m3, p3, ok3, hs3, fI, -, hcase3⟩ := tc_out f m qs ⟨qa, qc, ct⟩ ⟨HSM.out.1, HSM.out.2.1, by have := HSM.out.2.2; omega⟩ (by show ct.length ≤ _; omega)
    have F3 := Lib.hid fI
    unfold tbAgg chAgg at F3
    simp only at F3
    obtain ⟨hk3, tx, hT2, hT3⟩ : ok3 = ok ∧ ∃ tx, (tbB f2 m2 p2 = true ∧ tbT f2 m2 p2 = tx) ∧ (tbB f3 m3 p3 = true ∧ tbT f3 m3 p3 = tx) := by
      have hc2 := HC.out
      rw [q1, q2] at hcase3
      rw [hv] at hc2
      rcases hc2 with ⟨h0, _⟩ | ⟨_, rfl, rfl, rfl, rfl, hno⟩ | ⟨_, hok, h4, rfl, rfl, rfl, hb2, ht2, _⟩
      · cases h0
      · rcases hcase3 with ⟨h0, _⟩ | ⟨_, rfl, rfl, rfl, rfl, _⟩ | ⟨_, hok, h4, _⟩
        · cases h0
        · exact ⟨rfl, _, ⟨hv, rfl⟩, q1, q2⟩
        · exact absurd ⟨hok, h4⟩ hno
      · rcases hcase3 with ⟨h0, _⟩ | ⟨_, rfl, rfl, rfl, rfl, hno⟩ | ⟨_, hok', h4', rfl, rfl, rfl, hb3, ht3, _⟩
        · cases h0
        · exact absurd ⟨hok, h4⟩ hno
        · exact ⟨rfl, _, ⟨hb2, ht2⟩, hb3, ht3⟩
    subst hk3
    have HT2 := Lib.hid hT2
    have HT3 := Lib.hid hT3
    clear HC hv q1 q2 q3 hqs hcase3 fI hT2 hT3
    go_wp2_with fail
    refine VV.out.mono ?_
    rintro e w5 ⟨rfl, hb⟩
    replace HH := Lib.hid (HH.out.up hb)
    replace RP := Lib.hid (RP.out.up hb)
    have hB : Below w4.heap.size w4 w5 := (by (repeat (first | exact Below.refl _ _ | assumption | refine Below.drew ?_ | refine up_drewN ?_ _ | refine up_alloc ?_ _ | refine up_set ?_ _ _ (by first | exact Nat.le_refl _ | (simp; done) | (simp; omega) | omega) | refine up_trans ?_ (by assumption)))); replace hc := up_c hB hz hc; replace hf := up_f hB hz hf; replace hz := Nat.lt_of_lt_of_le hz hB.size; replace xc := up_c hB xz xc; replace xf := up_f hB xz xf; replace xz := Nat.lt_of_lt_of_le xz hB.size; replace kc := up_c hB kz kc; replace kf := up_f hB kz kf; replace kz := Nat.lt_of_lt_of_le kz hB.size; have sw5 := hB.size; replace hW := up_trans hW hB; clear hB
    clear hb VV
    have HW := Lib.hid hW
    clear hW
    obtain ⟨w4, rfl⟩ : ∃ z, z = w5 := ⟨_, rfl⟩
    go_upto_region 10 with (fail)
    --EVER{laws.FnPackChange;10;pc10}
    refine wp_region_everL (R := RX (XT f3 m3 p3) w4.heap.size w4.heap.size) (M := fun _ _ => True) 0 (fun _ => True) [(xEq _ _ _ (.agg #[S f, S m, .slice A ps.length c])).l, (xRow (XT f3 m3 p3) _ _ (fun u => .agg #[S f, S m, u]) 79 (xt_ne _ _ _) 3 qs.length (qs.flatMap pcC)).l, (xEq _ _ _ (.agg #[.int .i64 qa, .int .i64 qc, S ct])).l, (xRow (XT f3 m3 p3) _ _ (fun u => .tuple #[.agg #[S f3, S m3, u], .bool ok3]) 79 (xt_ne _ _ _) 3 p3.length (p3.flatMap pcC)).l, (xRow (XT f3 m3 p3) _ _ (fun u => .tuple #[.agg #[S f3, S m3, u], .bool ok3]) 79 (xt_ne _ _ _) 3 p3.length (p3.flatMap pcC)).l, (xRow (XT f3 m3 p3) _ _ (fun u => .agg #[S f3, S m3, u]) 79 (xt_ne _ _ _) 3 p3.length (p3.flatMap pcC)).l, (xEq _ _ _ (.bool ok3)).l, (xBox (XT f3 m3 p3) _ _).l, xPut (XT f3 m3 p3) _ _ 9, (xEq _ _ _ (.bool ok3)).l] (by kernel_rfl) (RX.refl _ _ _) (fun _ _ _ => RX.trans) (by kernel_rfl) (by kernel_rfl) (trivial) (trivial) ?_ ?_
    · refine ⟨?_, ?_, ?_, ?_, ?_, ?_, ?_, ?_, ?_, ?_, trivial⟩
      · intro k' w' ρ hk' hR hM hD hF
        replace hk' : k' < 10 := hk'
        obtain ⟨f0, -⟩ := hF
        replace f0 : ρ (.tmp 3) = .pointer (some ⟨w1.heap.size, 0, none⟩) := f0
        refine goodL_of (fun _ => trivial) fun K hK => ?_
        have z0 := (hR.of_drew.cell hz hz  0).trans (hc 0); have z1 := (hR.of_drew.cell hz hz  1).trans (hc 1); have z2 := (hR.of_drew.cell hz hz  2).trans (hc 2); go_simp; exact hK _ _ (RX.refl _ _ _ _) (⟨trivial, fun _ h => h⟩) rfl
      · intro k' w' ρ hk' hR hM hD hF
        replace hk' : k' < 10 := hk'
        obtain ⟨f0, f1, -⟩ := hF
        replace f0 : ρ (.func _) = .func (.func _) #[] #[] := f0
        replace f1 : ρ (.tmp 49) = .agg #[S f, S m, .slice A ps.length c] := f1
        refine goodL_of (fun _ => trivial) fun K hK => ?_
        go_simp; refine (PK1.out _ (RdL.up HH.out hR.of_drew.to_below)).mono ?_; rintro e wc ⟨u, rfl, ho, hb⟩; exact ⟨_, rfl, hK _ _ (RX.of_below hb) ⟨trivial, fun _ _ => trivial⟩ ⟨u, rfl, own_base ho hR.size⟩⟩
      · intro k' w' ρ hk' hR hM hD hF
        replace hk' : k' < 10 := hk'
        obtain ⟨f0, -⟩ := hF
        replace f0 : ρ (.tmp 4) = .pointer (some ⟨w1.heap.size + 1, 0, none⟩) := f0
        refine goodL_of (fun _ => trivial) fun K hK => ?_
        have z0 := (hR.of_drew.cell kz kz  0).trans (kc 0); have z1 := (hR.of_drew.cell kz kz  1).trans (kc 1); have z2 := (hR.of_drew.cell kz kz  2).trans (kc 2); go_simp; exact hK _ _ (RX.refl _ _ _ _) (⟨trivial, fun _ h => h⟩) rfl
      · intro k' w' ρ hk' hR hM hD hF
        replace hk' : k' < 10 := hk'
        obtain ⟨f0, f1, f2, -⟩ := hF
        replace f0 : ρ (.func _) = .func (.func _) #[] #[] := f0
        replace f2 : ρ (.tmp 51) = .agg #[.int .i64 qa, .int .i64 qc, S ct] := f2
        refine goodL_of (fun _ => trivial) fun K hK => ?_
        obtain ⟨u1, f1, q1⟩ := f1; replace f1 : ρ (.tmp _) = .agg #[S f, S m, u1] := f1; have Q1 := Lib.hid (RdL.of_own (f := pcC) (bs := qs) q1); clear q1; go_simp; refine (F3.out _ _ Q1.out).mono ?_; rintro e wc ⟨v0, rfl, ho, hb⟩; exact ⟨_, rfl, hK _ _ (RX.of_below hb) ⟨trivial, fun _ _ => trivial⟩ ⟨v0, rfl, own_base ho hR.size⟩⟩
      · intro k' w' ρ hk' hR hM hD hF
        replace hk' : k' < 10 := hk'
        obtain ⟨f0, -⟩ := hF
        exact ⟨RX.refl _ _ _ _, ⟨trivial, fun _ h => h⟩, f0, trivial⟩
      · intro k' w' ρ hk' hR hM hD hF
        replace hk' : k' < 10 := hk'
        obtain ⟨f0, -⟩ := hF
        refine goodL_of (fun _ => trivial) fun K hK => ?_
        obtain ⟨v0, f0, q0⟩ := f0; replace f0 : ρ (.tmp _) = .tuple #[.agg #[S f3, S m3, v0], .bool ok3] := f0; have Q0 := Lib.hid q0; clear q0; go_simp; exact hK _ _ (RX.refl _ _ _ _) ⟨trivial, fun _ h => h⟩ ⟨v0, rfl, Q0.out⟩
      · intro k' w' ρ hk' hR hM hD hF
        replace hk' : k' < 10 := hk'
        obtain ⟨f0, -⟩ := hF
        refine goodL_of (fun _ => trivial) fun K hK => ?_
        obtain ⟨v0, f0, q0⟩ := f0; replace f0 : ρ (.tmp _) = .tuple #[.agg #[S f3, S m3, v0], .bool ok3] := f0; have Q0 := Lib.hid q0; clear q0; go_simp; exact hK _ _ (RX.refl _ _ _ _) ⟨trivial, fun _ h => h⟩ rfl
      · intro k' w' ρ hk' hR hM hD hF
        replace hk' : k' < 10 := hk'
        refine goodL_of (fun _ => trivial) fun K hK => ?_
        have hBz : _ ≤ w'.heap.size := hR.size; go_simp; exact hK _ _ (RX.of_below (up_alloc (Below.refl _ _) _)) ⟨trivial, fun _ _ => trivial⟩ ⟨_, rfl, hBz, by simp, (xbox_mk (XT f3 m3 p3) _ _ rfl).1, (xbox_mk (XT f3 m3 p3) _ _ rfl).2⟩
      · intro k' w' ρ hk' hR hM hD hF
        replace hk' : k' < 10 := hk'
        obtain ⟨f0, f1, -⟩ := hF
        refine goodL_ofs fun K hK => ?_
        obtain ⟨bi, f0, bB, bz, bT, bI⟩ := f0; replace f0 : ρ (.tmp 9) = .pointer (some ⟨bi, 0, none⟩) := f0; obtain ⟨u1, f1, q1⟩ := f1; obtain ⟨A1, c1, rfl, -, -⟩ := (RdL.of_own (f := pcC) (bs := p3) q1).form; replace f1 : ρ (.tmp _) = .agg #[S f3, S m3, .slice A1 p3.length c1] := f1; obtain ⟨bK, bG⟩ := xput_mk (X := XT f3 m3 p3) bT bI q1 bB; obtain ⟨bV, hbV, bI⟩ := bI; obtain ⟨b0, b1, b2, e0, e1, e2⟩ := bI.three hbV; have qf := bI.2; clear bI q1; go_simp; refine hK _ _ bG ⟨trivial, fun _ _ => trivial⟩ trivial ?_; intro i hi; replace hi := hi.symm.trans f0; cases hi; exact ⟨by simpa [World.setCell] using bz, bK⟩
      · intro k' w' ρ hk' hR hM hD hF
        replace hk' : k' < 10 := hk'
        obtain ⟨f0, -⟩ := hF
        replace f0 : ρ (.tmp 54) = .bool ok3 := f0
        exact ⟨RX.refl _ _ _ _, ⟨trivial, fun _ h => h⟩, f0, trivial⟩
    · intro w' hR hM
      rintro _ rfl -
      rintro _ ⟨_, rfl, -⟩ -
      rintro _ rfl -
      rintro _ ⟨_, rfl, -⟩ -
      rintro _ ⟨_, rfl, -⟩ -
      rintro _ ⟨_, rfl, -⟩ -
      rintro _ rfl -
      rintro _ ⟨db, rfl, dbB, dbz, -, -⟩ -
      rintro _ - dbS
      rintro _ rfl -
    --END
    --END
      dsimp only [EndAllL, Act.put]
      simp only [List.setIfInBounds_toArray, List.set_cons_zero, List.set_cons_succ]
      obtain ⟨w6, rfl⟩ : ∃ z, z = w' := ⟨_, rfl⟩
      obtain ⟨dz, hdk, V0, ⟨dc, df⟩, ho0⟩ := dbS _ rfl
      replace dc : ∀ o, w6.cell? ⟨db, o, none⟩ = #[S f3, S m3, V0][o]? := dc
      replace ho0 : OwnP w6 _ V0 p3 := ho0
      have hB3 : Below w4.heap.size w4 w6 := hR.of_drew.to_below
      have hW := HW.out
      have hb := hB3
      have dy := dz
      replace RP := Lib.hid (RP.out.up hB3)
      have hB : Below w4.heap.size w4 w6 := (by (repeat (first | exact Below.refl _ _ | assumption | refine Below.drew ?_ | refine up_drewN ?_ _ | refine up_alloc ?_ _ | refine up_set ?_ _ _ (by first | exact Nat.le_refl _ | (simp; done) | (simp; omega) | omega) | refine up_trans ?_ (by assumption)))); replace hc := up_c hB hz hc; replace hf := up_f hB hz hf; replace hz := Nat.lt_of_lt_of_le hz hB.size; replace xc := up_c hB xz xc; replace xf := up_f hB xz xf; replace xz := Nat.lt_of_lt_of_le xz hB.size; replace kc := up_c hB kz kc; replace kf := up_f hB kz kf; replace kz := Nat.lt_of_lt_of_le kz hB.size; have sw6 := hB.size; replace hW := up_trans hW hB; clear hB
      obtain ⟨VA, VC, rfl, -, -⟩ := (RdL.of_own (f := pcC) (bs := p3) ho0).form
      have R3 := Lib.hid (RdL.of_own (f := pcC) (bs := p3) ho0)
      have TA := Lib.hid (fun w' (hb : Below w6.heap.size w6 w') => implTableText_yes f3 m3 _ p3 w' (R3.out.up hb) HT3.out.1)
      have TB := Lib.hid (fun w' (hb : Below w6.heap.size w6 w') => implTableText_yes f2 m2 _ p2 w' (RP.out.up hb) HT2.out.1)
      rw [HT3.out.2] at TA
      rw [HT2.out.2] at TB
      unfold tbAgg at TA TB
      clear hR hM HW hb hB3 dbS hdk dbz ho0 HT2 HT3 R3 RP hc hf hz kc kf kz
      have hne := UpW.nonempty w6
      have C1 := Lib.hid (fun y : UpW w6 => calls_up (TA.out (y.at w6) y.2))
      have C2 := Lib.hid (fun y : UpW w6 => calls_up (TB.out (y.at w6) y.2))
      have C3 := Lib.hid (fun y : UpW w6 => calls_up ((alive_any (y.at w6)).mono (R' := fun e w2 => e = .returned (.bool true) ∧ Below (y.at w6).heap.size (y.at w6) w2) fun e w2 ⟨h, he⟩ => ⟨h, he ▸ Below.refl _ _⟩))
      clear TA TB
      have hok3 : (ok3 == ok3) = true := by simp
      go_wp2_with fail
      refine wp_region_up_lit (by kernel_rfl) (by kernel_rfl) ?_
      repeat (go_big_quiet_step (first | (go_at_call 30; (first | (with_reducible exact C1.out _) | exact C2.out _)) | (go_at_call 17; exact C3.out _)))
      refine wpQuiet_nil ?_
      intro w7 hb1
      replace hb1 := UpW.out hb1
      have hW7 := up_trans hW hb1
      go_wp2_with fail
      go_ret
      exact ⟨rfl, hW7⟩

end Go.Proofs.Ytlejfmngpbcdhaa
