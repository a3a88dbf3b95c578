/- What is proved here: the walk of the law FnExactTableChange. No condition. -/
import Derived.Test.YtlejfmngpbcdhaaTabF
import Derived.Test.YtlejfmngpbcdhaaEverX
namespace Go.Proofs.Ytlejfmngpbcdhaa
open Go.RowKit
set_option linter.unusedVariables false

def XT (f2 m2 : List UInt8) (p2 : List Pc) : Bxp := ⟨48, 79, 3, p2.length, p2.flatMap pcC, fun v => #[S f2, S m2, v], 3, by decide, fun _ => rfl⟩
theorem xt_ne (f2 m2 : List UInt8) (p2 : List Pc) : 79 ≠ (XT f2 m2 p2).bt := show (79 : TypeId) ≠ 48 by decide
def tTabR (f m : List UInt8) (ps : List Pc) : Ty (RS []) := ⟨fun v w => ∃ u, v = .agg #[S f, S m, u] ∧ RdL w 3 pcC u ps, fun _ _ _ hR ⟨u, hv, h⟩ => ⟨u, hv, h.up hR.to_below⟩⟩

set_option maxRecDepth 100000 in
set_option maxHeartbeats 4000000 in
theorem exactTableChange_walk (f : List UInt8) (hf0 : f.length ≤ maxLen) (m : List UInt8) (hm0 : m.length ≤ maxLen) (v : Value) (ps : List Pc) (qa qc : Int) (qp : List UInt8) (hp : qp.length ≤ maxLen) (w : World) (h : RdP w v ps) :
    Calls Try.prog 5 #[.agg #[S f, S m, v], chV qa qc qp] w fun e w' => e = .returned (.bool true) ∧ Below w.heap.size w w' := by
  have hW := Below.refl w.heap.size w
  obtain ⟨A, c, rfl, hm, _⟩ := h.form
  unfold chV
  have H0 := Lib.hid h
  clear h
  go_enter Try.func5, Try.ntmps5
  go_wp2_with fail
  refine (szTable_any f m _ ps _ (H0.out.up (by (repeat (first | exact Below.refl _ _ | assumption | refine Below.drew ?_ | refine up_drewN ?_ _ | refine up_alloc ?_ _ | refine up_set ?_ _ _ (by first | exact Nat.le_refl _ | (simp; done) | (simp; omega) | omega) | refine up_trans ?_ (by assumption))))) hf0 hm0).mono ?_
  rintro e w1 ⟨r, rfl, hr1, hr2, hb⟩
  have hc : ∀ o, w1.cell? ⟨w.heap.size, o, none⟩ = #[S f, S m, .slice A ps.length c][o]? := (fun o => (hb.cell (p := ⟨w.heap.size, o, none⟩) (by simp <;> omega)).trans (by simp [go_sem])); have hf : ∀ o, w1.frozen? ⟨w.heap.size, o, none⟩ = false := (fun o => (hb.frozen (p := ⟨w.heap.size, o, none⟩) (by simp <;> omega)).trans (by simp [go_sem])); have hz : w.heap.size < w1.heap.size := (by have := hb.size; (try simp at this); omega); have hy := hz
  have cc : ∀ o, w1.cell? ⟨w.heap.size + 1, o, none⟩ = #[.int .i64 qa, .int .i64 qc, S qp][o]? := (fun o => (hb.cell (p := ⟨w.heap.size + 1, o, none⟩) (by simp <;> omega)).trans (by simp [go_sem])); have cf : ∀ o, w1.frozen? ⟨w.heap.size + 1, o, none⟩ = false := (fun o => (hb.frozen (p := ⟨w.heap.size + 1, o, none⟩) (by simp <;> omega)).trans (by simp [go_sem])); have cz : w.heap.size + 1 < w1.heap.size := (by have := hb.size; (try simp at this); omega); have cy := cz
  have hB : Below w.heap.size w w1 := (by (repeat (first | exact Below.refl _ _ | assumption | refine Below.drew ?_ | refine up_drewN ?_ _ | refine up_alloc ?_ _ | refine up_set ?_ _ _ (by first | exact Nat.le_refl _ | (simp; done) | (simp; omega) | omega) | refine up_trans ?_ (by assumption)))); have sw1 := hB.size; replace hW := up_trans hW hB; clear hB
  clear hb
  by_cases hr0 : r < 0
  · clear hr2
    go_wp2_with fail
    go_ret
    exact ⟨rfl, hW⟩
  have hsm := hr2 (by omega)
  have hs1 := hsm.2.2
  have HS := Lib.hid hsm
  clear hr2 hsm
  go_wp2_with fail
  refine (szChange_any qa qc qp _ _ hp (by omega) (by omega)).mono ?_
  rintro e w2 ⟨rfl, hb⟩
  have hB : Below w1.heap.size w1 w2 := (by (repeat (first | exact Below.refl _ _ | assumption | refine Below.drew ?_ | refine up_drewN ?_ _ | refine up_alloc ?_ _ | refine up_set ?_ _ _ (by first | exact Nat.le_refl _ | (simp; done) | (simp; omega) | omega) | refine up_trans ?_ (by assumption)))); replace hc := up_c hB hz hc; replace hf := up_f hB hz hf; replace hz := Nat.lt_of_lt_of_le hz hB.size; replace cc := up_c hB cz cc; replace cf := up_f hB cz cf; replace cz := Nat.lt_of_lt_of_le cz hB.size; have sw2 := hB.size; replace hW := up_trans hW hB; clear hB
  clear hb
  by_cases hr3 : r < qp.length
  · rw [if_pos hr3]
    go_wp2_with fail
    go_ret
    exact ⟨rfl, hW⟩
  rw [if_neg hr3]
  have hr4 : ¬ r - (qp.length : Int) < 0 := by omega
  have hp2 : qp.length ≤ 1048576 := by omega
  obtain ⟨f2, m2, p2, ok, hm2, fI, fS⟩ := tc_both f m ps ⟨qa, qc, qp⟩ HS.out hp2
  have FI := Lib.hid fI
  have FS := Lib.hid fS
  clear fI fS
  unfold chAgg tbAgg at FI FS
  simp only at FI FS
  have HW := Lib.hid hW
  clear hW
  go_wp2_with fail
  clear hr4 hr3 hr0
  --EVER{laws.FnExactTableChange;8;xt8}
  refine wp_region_everL (R := RX (XT f2 m2 p2) w2.heap.size w2.heap.size) (M := fun _ _ => True) 0 (fun _ => True) [(xEq _ _ _ (.agg #[S f, S m, .slice A ps.length c])).l, (xRow (XT f2 m2 p2) _ _ (fun u => .agg #[S f, S m, u]) 79 (xt_ne _ _ _) 3 ps.length (ps.flatMap pcC)).l, (xEq _ _ _ (.agg #[.int .i64 qa, .int .i64 qc, S qp])).l, (xEq _ _ _ (.agg #[.int .i64 qa, .int .i64 qc, S qp])).l, (xRow (XT f2 m2 p2) _ _ (fun u => .tuple #[.agg #[S f2, S m2, u], .bool ok]) 79 (xt_ne _ _ _) 3 p2.length (p2.flatMap pcC)).l, (xRow (XT f2 m2 p2) _ _ (fun u => .tuple #[.agg #[S f2, S m2, u], .bool ok]) 79 (xt_ne _ _ _) 3 p2.length (p2.flatMap pcC)).l, (xRow (XT f2 m2 p2) _ _ (fun u => .agg #[S f2, S m2, u]) 79 (xt_ne _ _ _) 3 p2.length (p2.flatMap pcC)).l, (xEq _ _ _ (.bool ok)).l, (xBox (XT f2 m2 p2) _ _).l, xPut (XT f2 m2 p2) _ _ 6, (xEq _ _ _ (.bool ok)).l] (by kernel_rfl) (RX.refl _ _ _) (fun _ _ _ => RX.trans) (by kernel_rfl) (by kernel_rfl) (trivial) (trivial) ?_ ?_
  · refine ⟨?_, ?_, ?_, ?_, ?_, ?_, ?_, ?_, ?_, ?_, ?_, trivial⟩
    · intro k' w' ρ hk' hR hM hD hF
      replace hk' : k' < 11 := hk'
      obtain ⟨f0, -⟩ := hF
      replace f0 : ρ (.tmp 2) = .pointer (some ⟨w.heap.size, 0, none⟩) := f0
      refine goodL_of (fun _ => trivial) fun K hK => ?_
      have z0 := (hR.of_drew.cell hz hz  0).trans (hc 0); have z1 := (hR.of_drew.cell hz hz  1).trans (hc 1); have z2 := (hR.of_drew.cell hz hz  2).trans (hc 2); go_simp; exact hK _ _ (RX.refl _ _ _ _) (⟨trivial, fun _ h => h⟩) rfl
    · intro k' w' ρ hk' hR hM hD hF
      replace hk' : k' < 11 := hk'
      obtain ⟨f0, f1, -⟩ := hF
      replace f0 : ρ (.func _) = .func (.func _) #[] #[] := f0
      replace f1 : ρ (.tmp 27) = .agg #[S f, S m, .slice A ps.length c] := f1
      refine goodL_of (fun _ => trivial) fun K hK => ?_
      go_simp; refine (toTable_any f m _ ps _ (H0.out.up (up_trans HW.out hR.of_drew.to_below)) hs1).mono ?_; rintro e wc ⟨u, rfl, ho, hb⟩; exact ⟨_, rfl, hK _ _ (RX.of_below hb) ⟨trivial, fun _ _ => trivial⟩ ⟨u, rfl, own_base ho hR.size⟩⟩
    · intro k' w' ρ hk' hR hM hD hF
      replace hk' : k' < 11 := hk'
      obtain ⟨f0, -⟩ := hF
      replace f0 : ρ (.tmp 3) = .pointer (some ⟨w.heap.size + 1, 0, none⟩) := f0
      refine goodL_of (fun _ => trivial) fun K hK => ?_
      have z0 := (hR.of_drew.cell cz cz  0).trans (cc 0); have z1 := (hR.of_drew.cell cz cz  1).trans (cc 1); have z2 := (hR.of_drew.cell cz cz  2).trans (cc 2); go_simp; exact hK _ _ (RX.refl _ _ _ _) (⟨trivial, fun _ h => h⟩) rfl
    · intro k' w' ρ hk' hR hM hD hF
      replace hk' : k' < 11 := hk'
      obtain ⟨f0, f1, -⟩ := hF
      replace f0 : ρ (.func _) = .func (.func _) #[] #[] := f0
      replace f1 : ρ (.tmp 29) = .agg #[.int .i64 qa, .int .i64 qc, S qp] := f1
      refine goodL_of (fun _ => trivial) fun K hK => ?_
      go_simp; refine (toChange_any qa qc qp _).mono ?_; rintro e wc ⟨rfl, hb⟩; exact ⟨_, rfl, hK _ _ (RX.of_below hb) ⟨trivial, fun _ _ => trivial⟩ rfl⟩
    · intro k' w' ρ hk' hR hM hD hF
      replace hk' : k' < 11 := hk'
      obtain ⟨f0, f1, f2, -⟩ := hF
      replace f0 : ρ (.func _) = .func (.func _) #[] #[] := f0
      replace f2 : ρ (.tmp 30) = .agg #[.int .i64 qa, .int .i64 qc, S qp] := f2
      refine goodL_of (fun _ => trivial) fun K hK => ?_
      obtain ⟨u1, f1, q1⟩ := f1; replace f1 : ρ (.tmp _) = .agg #[S f, S m, u1] := f1; have Q1 := Lib.hid (RdL.of_own (f := pcC) (bs := ps) q1); clear q1; go_simp; refine (FS.out _ _ Q1.out).mono ?_; rintro e wc ⟨v0, rfl, ho, hb⟩; exact ⟨_, rfl, hK _ _ (RX.of_below hb) ⟨trivial, fun _ _ => trivial⟩ ⟨v0, rfl, own_base ho hR.size⟩⟩
    · intro k' w' ρ hk' hR hM hD hF
      replace hk' : k' < 11 := hk'
      obtain ⟨f0, -⟩ := hF
      exact ⟨RX.refl _ _ _ _, ⟨trivial, fun _ h => h⟩, f0, trivial⟩
    · intro k' w' ρ hk' hR hM hD hF
      replace hk' : k' < 11 := hk'
      obtain ⟨f0, -⟩ := hF
      refine goodL_of (fun _ => trivial) fun K hK => ?_
      obtain ⟨v0, f0, q0⟩ := f0; replace f0 : ρ (.tmp _) = .tuple #[.agg #[S f2, S m2, v0], .bool ok] := f0; have Q0 := Lib.hid q0; clear q0; go_simp; exact hK _ _ (RX.refl _ _ _ _) ⟨trivial, fun _ h => h⟩ ⟨v0, rfl, Q0.out⟩
    · intro k' w' ρ hk' hR hM hD hF
      replace hk' : k' < 11 := hk'
      obtain ⟨f0, -⟩ := hF
      refine goodL_of (fun _ => trivial) fun K hK => ?_
      obtain ⟨v0, f0, q0⟩ := f0; replace f0 : ρ (.tmp _) = .tuple #[.agg #[S f2, S m2, v0], .bool ok] := f0; have Q0 := Lib.hid q0; clear q0; go_simp; exact hK _ _ (RX.refl _ _ _ _) ⟨trivial, fun _ h => h⟩ rfl
    · intro k' w' ρ hk' hR hM hD hF
      replace hk' : k' < 11 := hk'
      refine goodL_of (fun _ => trivial) fun K hK => ?_
      have hBz : _ ≤ w'.heap.size := hR.size; go_simp; exact hK _ _ (RX.of_below (up_alloc (Below.refl _ _) _)) ⟨trivial, fun _ _ => trivial⟩ ⟨_, rfl, hBz, by simp, (xbox_mk (XT f2 m2 p2) _ _ rfl).1, (xbox_mk (XT f2 m2 p2) _ _ rfl).2⟩
    · intro k' w' ρ hk' hR hM hD hF
      replace hk' : k' < 11 := hk'
      obtain ⟨f0, f1, -⟩ := hF
      refine goodL_ofs fun K hK => ?_
      obtain ⟨bi, f0, bB, bz, bT, bI⟩ := f0; replace f0 : ρ (.tmp 6) = .pointer (some ⟨bi, 0, none⟩) := f0; obtain ⟨u1, f1, q1⟩ := f1; obtain ⟨A1, c1, rfl, -, -⟩ := (RdL.of_own (f := pcC) (bs := p2) q1).form; replace f1 : ρ (.tmp _) = .agg #[S f2, S m2, .slice A1 p2.length c1] := f1; obtain ⟨bK, bG⟩ := xput_mk (X := (XT f2 m2 p2)) bT bI q1 bB; obtain ⟨bV, hbV, bI⟩ := bI; obtain ⟨b0, b1, b2, e0, e1, e2⟩ := bI.three hbV; have qf := bI.2; clear bI q1; go_simp; refine hK _ _ bG ⟨trivial, fun _ _ => trivial⟩ trivial ?_; intro i hi; replace hi := hi.symm.trans f0; cases hi; exact ⟨by simpa [World.setCell] using bz, bK⟩
    · intro k' w' ρ hk' hR hM hD hF
      replace hk' : k' < 11 := hk'
      obtain ⟨f0, -⟩ := hF
      replace f0 : ρ (.tmp 33) = .bool ok := f0
      exact ⟨RX.refl _ _ _ _, ⟨trivial, fun _ h => h⟩, f0, trivial⟩
  · intro w' hR hM
    rintro _ rfl -
    rintro _ ⟨_, rfl, -⟩ -
    rintro _ rfl -
    rintro _ rfl -
    rintro _ ⟨_, rfl, -⟩ -
    rintro _ ⟨_, rfl, -⟩ -
    rintro _ ⟨_, rfl, -⟩ -
    rintro _ rfl -
    rintro _ ⟨db, rfl, dbB, dbz, -, -⟩ -
    rintro _ - dbS
    rintro _ rfl -
  --END
  --END
    dsimp only [EndAllL, Act.put]
    simp only [List.setIfInBounds_toArray, List.set_cons_zero, List.set_cons_succ]
    obtain ⟨w3, rfl⟩ : ∃ z, z = w' := ⟨_, rfl⟩
    obtain ⟨dz, hdk, V0, ⟨dc, df⟩, ho0⟩ := dbS _ rfl
    replace dc : ∀ o, w3.cell? ⟨db, o, none⟩ = #[S f2, S m2, V0][o]? := dc
    replace ho0 : OwnP w3 _ V0 p2 := ho0
    have hB3 : Below w2.heap.size w2 w3 := hR.of_drew.to_below
    have hW := HW.out
    have hb := hB3
    have dy := dz
    have hB : Below w2.heap.size w2 w3 := (by (repeat (first | exact Below.refl _ _ | assumption | refine Below.drew ?_ | refine up_drewN ?_ _ | refine up_alloc ?_ _ | refine up_set ?_ _ _ (by first | exact Nat.le_refl _ | (simp; done) | (simp; omega) | omega) | refine up_trans ?_ (by assumption)))); replace hc := up_c hB hz hc; replace hf := up_f hB hz hf; replace hz := Nat.lt_of_lt_of_le hz hB.size; replace cc := up_c hB cz cc; replace cf := up_f hB cz cf; replace cz := Nat.lt_of_lt_of_le cz hB.size; have sw3 := hB.size; replace hW := up_trans hW hB; clear hB
    obtain ⟨VA, VC, rfl, -, -⟩ := (RdL.of_own (f := pcC) (bs := p2) ho0).form
    clear hR hM HW hb hB3 dbS hdk dbz
    go_wp2_with fail
    refine (toTable_any f m _ ps _ (H0.out.up hW) hs1).mono ?_
    rintro e w4 ⟨x0, rfl, hx0, hb⟩
    unfold tbAgg
    have n1 := Lib.hid (own_ne ho0 hx0 (by first | omega | (simp; done) | (simp; omega)))
    have xd := Lib.hid (ho_ne hx0 (show db < _ by first | omega | (simp; done) | (simp; omega)))
    have xh := Lib.hid (ho_ne hx0 (show w.heap.size < _ by first | omega | (simp; done) | (simp; omega)))
    have xk := Lib.hid (ho_ne hx0 (show w.heap.size + 1 < _ by first | omega | (simp; done) | (simp; omega)))
    have hB : Below w3.heap.size w3 w4 := (by (repeat (first | exact Below.refl _ _ | assumption | refine Below.drew ?_ | refine up_drewN ?_ _ | refine up_alloc ?_ _ | refine up_set ?_ _ _ (by first | exact Nat.le_refl _ | (simp; done) | (simp; omega) | omega) | refine up_trans ?_ (by assumption)))); replace hc := up_c hB hz hc; replace hf := up_f hB hz hf; replace hz := Nat.lt_of_lt_of_le hz hB.size; replace cc := up_c hB cz cc; replace cf := up_f hB cz cf; replace cz := Nat.lt_of_lt_of_le cz hB.size; replace dc := up_c hB dz dc; replace df := up_f hB dz df; replace dz := Nat.lt_of_lt_of_le dz hB.size; replace ho0 := own_up ho0 hB; have sw4 := hB.size; replace hW := up_trans hW hB; clear hB
    obtain ⟨XA, XC, rfl, -, -⟩ := (RdL.of_own (f := pcC) (bs := ps) hx0).form
    have xx := Lib.hid (fun y (hy : w4.heap.size ≤ y) => ho_gt hx0 hy)
    clear hb
    go_upto_region 10 with (fail)
    obtain ⟨w5, hw5⟩ : ∃ z, z = w4.alloc (.cells #[S f, S m, .slice XA ps.length XC] 48) := ⟨_, rfl⟩
    have hb : Below (w4.alloc (.cells #[S f, S m, .slice XA ps.length XC] 48)).heap.size (w4.alloc (.cells #[S f, S m, .slice XA ps.length XC] 48)) w5 := by rw [hw5]; exact Below.refl _ _
    rw [← hw5]
    have xc : ∀ o, w5.cell? ⟨w4.heap.size, o, none⟩ = #[S f, S m, .slice XA ps.length XC][o]? := (fun o => (hb.cell (p := ⟨w4.heap.size, o, none⟩) (by simp <;> omega)).trans (by simp [go_sem])); have xf : ∀ o, w5.frozen? ⟨w4.heap.size, o, none⟩ = false := (fun o => (hb.frozen (p := ⟨w4.heap.size, o, none⟩) (by simp <;> omega)).trans (by simp [go_sem])); have xz : w4.heap.size < w5.heap.size := (by have := hb.size; (try simp at this); omega); have xy := xz
    have hB : Below w4.heap.size w4 w5 := (by (repeat (first | exact Below.refl _ _ | assumption | refine Below.drew ?_ | refine up_drewN ?_ _ | refine up_alloc ?_ _ | refine up_set ?_ _ _ (by first | exact Nat.le_refl _ | (simp; done) | (simp; omega) | omega) | refine up_trans ?_ (by assumption)))); replace hc := up_c hB hz hc; replace hf := up_f hB hz hf; replace hz := Nat.lt_of_lt_of_le hz hB.size; replace cc := up_c hB cz cc; replace cf := up_f hB cz cf; replace cz := Nat.lt_of_lt_of_le cz hB.size; replace dc := up_c hB dz dc; replace df := up_f hB dz df; replace dz := Nat.lt_of_lt_of_le dz hB.size; replace ho0 := own_up ho0 hB; replace hx0 := own_up hx0 hB; have sw5 := hB.size; replace hW := up_trans hW hB; clear hB
    have HO0 := Lib.hid ho0
    have HX0 := Lib.hid hx0
    have HW := Lib.hid hW
    clear hb hw5 ho0 hx0 hW
    --EVER{laws.FnExactTableChange;10;xt10}
    refine wp_region_everL (R := RX (XT f2 m2 p2) w5.heap.size w5.heap.size) (M := fun _ _ => True) 0 (fun _ => True) [(xEq _ _ _ (.agg #[S f, S m, .slice XA ps.length XC])).l, (xEq _ _ _ (.agg #[.int .i64 qa, .int .i64 qc, S qp])).l, (xEq _ _ _ (.agg #[.int .i64 qa, .int .i64 qc, S qp])).l, (xRow (XT f2 m2 p2) _ _ (fun u => .tuple #[.agg #[S f2, S m2, u], .bool ok]) 79 (xt_ne _ _ _) 3 p2.length (p2.flatMap pcC)).l, (xRow (XT f2 m2 p2) _ _ (fun u => .tuple #[.agg #[S f2, S m2, u], .bool ok]) 79 (xt_ne _ _ _) 3 p2.length (p2.flatMap pcC)).l, (xRow (XT f2 m2 p2) _ _ (fun u => .agg #[S f2, S m2, u]) 79 (xt_ne _ _ _) 3 p2.length (p2.flatMap pcC)).l, (xEq _ _ _ (.bool ok)).l, (xBox (XT f2 m2 p2) _ _).l, xPut (XT f2 m2 p2) _ _ 9, (xEq _ _ _ (.bool ok)).l] (by kernel_rfl) (RX.refl _ _ _) (fun _ _ _ => RX.trans) (by kernel_rfl) (by kernel_rfl) (trivial) (trivial) ?_ ?_
    · refine ⟨?_, ?_, ?_, ?_, ?_, ?_, ?_, ?_, ?_, ?_, trivial⟩
      · intro k' w' ρ hk' hR hM hD hF
        replace hk' : k' < 10 := hk'
        obtain ⟨f0, -⟩ := hF
        replace f0 : ρ (.tmp 8) = .pointer (some ⟨w4.heap.size, 0, none⟩) := f0
        refine goodL_of (fun _ => trivial) fun K hK => ?_
        have z0 := (hR.of_drew.cell xz xz  0).trans (xc 0); have z1 := (hR.of_drew.cell xz xz  1).trans (xc 1); have z2 := (hR.of_drew.cell xz xz  2).trans (xc 2); go_simp; exact hK _ _ (RX.refl _ _ _ _) (⟨trivial, fun _ h => h⟩) rfl
      · intro k' w' ρ hk' hR hM hD hF
        replace hk' : k' < 10 := hk'
        obtain ⟨f0, -⟩ := hF
        replace f0 : ρ (.tmp 3) = .pointer (some ⟨w.heap.size + 1, 0, none⟩) := f0
        refine goodL_of (fun _ => trivial) fun K hK => ?_
        have z0 := (hR.of_drew.cell cz cz  0).trans (cc 0); have z1 := (hR.of_drew.cell cz cz  1).trans (cc 1); have z2 := (hR.of_drew.cell cz cz  2).trans (cc 2); go_simp; exact hK _ _ (RX.refl _ _ _ _) (⟨trivial, fun _ h => h⟩) rfl
      · intro k' w' ρ hk' hR hM hD hF
        replace hk' : k' < 10 := hk'
        obtain ⟨f0, f1, -⟩ := hF
        replace f0 : ρ (.func _) = .func (.func _) #[] #[] := f0
        replace f1 : ρ (.tmp 38) = .agg #[.int .i64 qa, .int .i64 qc, S qp] := f1
        refine goodL_of (fun _ => trivial) fun K hK => ?_
        go_simp; refine (toChange_any qa qc qp _).mono ?_; rintro e wc ⟨rfl, hb⟩; exact ⟨_, rfl, hK _ _ (RX.of_below hb) ⟨trivial, fun _ _ => trivial⟩ rfl⟩
      · intro k' w' ρ hk' hR hM hD hF
        replace hk' : k' < 10 := hk'
        obtain ⟨f0, f1, f2, -⟩ := hF
        replace f0 : ρ (.func _) = .func (.func _) #[] #[] := f0
        replace f1 : ρ (.tmp 37) = .agg #[S f, S m, .slice XA ps.length XC] := f1
        replace f2 : ρ (.tmp 39) = .agg #[.int .i64 qa, .int .i64 qc, S qp] := f2
        refine goodL_of (fun _ => trivial) fun K hK => ?_
        have Q1 := Lib.hid (RdL.of_own (f := pcC) (bs := ps) (hR.of_drew.own (xt_ne _ _ _) HX0.out)); go_simp; refine (FI.out _ _ Q1.out).mono ?_; rintro e wc ⟨v0, rfl, ho, hb⟩; exact ⟨_, rfl, hK _ _ (RX.of_below hb) ⟨trivial, fun _ _ => trivial⟩ ⟨v0, rfl, own_base ho hR.size⟩⟩
      · intro k' w' ρ hk' hR hM hD hF
        replace hk' : k' < 10 := hk'
        obtain ⟨f0, -⟩ := hF
        exact ⟨RX.refl _ _ _ _, ⟨trivial, fun _ h => h⟩, f0, trivial⟩
      · intro k' w' ρ hk' hR hM hD hF
        replace hk' : k' < 10 := hk'
        obtain ⟨f0, -⟩ := hF
        refine goodL_of (fun _ => trivial) fun K hK => ?_
        obtain ⟨v0, f0, q0⟩ := f0; replace f0 : ρ (.tmp _) = .tuple #[.agg #[S f2, S m2, v0], .bool ok] := f0; have Q0 := Lib.hid q0; clear q0; go_simp; exact hK _ _ (RX.refl _ _ _ _) ⟨trivial, fun _ h => h⟩ ⟨v0, rfl, Q0.out⟩
      · intro k' w' ρ hk' hR hM hD hF
        replace hk' : k' < 10 := hk'
        obtain ⟨f0, -⟩ := hF
        refine goodL_of (fun _ => trivial) fun K hK => ?_
        obtain ⟨v0, f0, q0⟩ := f0; replace f0 : ρ (.tmp _) = .tuple #[.agg #[S f2, S m2, v0], .bool ok] := f0; have Q0 := Lib.hid q0; clear q0; go_simp; exact hK _ _ (RX.refl _ _ _ _) ⟨trivial, fun _ h => h⟩ rfl
      · intro k' w' ρ hk' hR hM hD hF
        replace hk' : k' < 10 := hk'
        refine goodL_of (fun _ => trivial) fun K hK => ?_
        have hBz : _ ≤ w'.heap.size := hR.size; go_simp; exact hK _ _ (RX.of_below (up_alloc (Below.refl _ _) _)) ⟨trivial, fun _ _ => trivial⟩ ⟨_, rfl, hBz, by simp, (xbox_mk (XT f2 m2 p2) _ _ rfl).1, (xbox_mk (XT f2 m2 p2) _ _ rfl).2⟩
      · intro k' w' ρ hk' hR hM hD hF
        replace hk' : k' < 10 := hk'
        obtain ⟨f0, f1, -⟩ := hF
        refine goodL_ofs fun K hK => ?_
        obtain ⟨bi, f0, bB, bz, bT, bI⟩ := f0; replace f0 : ρ (.tmp 9) = .pointer (some ⟨bi, 0, none⟩) := f0; obtain ⟨u1, f1, q1⟩ := f1; obtain ⟨A1, c1, rfl, -, -⟩ := (RdL.of_own (f := pcC) (bs := p2) q1).form; replace f1 : ρ (.tmp _) = .agg #[S f2, S m2, .slice A1 p2.length c1] := f1; obtain ⟨bK, bG⟩ := xput_mk (X := (XT f2 m2 p2)) bT bI q1 bB; obtain ⟨bV, hbV, bI⟩ := bI; obtain ⟨b0, b1, b2, e0, e1, e2⟩ := bI.three hbV; have qf := bI.2; clear bI q1; go_simp; refine hK _ _ bG ⟨trivial, fun _ _ => trivial⟩ trivial ?_; intro i hi; replace hi := hi.symm.trans f0; cases hi; exact ⟨by simpa [World.setCell] using bz, bK⟩
      · intro k' w' ρ hk' hR hM hD hF
        replace hk' : k' < 10 := hk'
        obtain ⟨f0, -⟩ := hF
        replace f0 : ρ (.tmp 42) = .bool ok := f0
        exact ⟨RX.refl _ _ _ _, ⟨trivial, fun _ h => h⟩, f0, trivial⟩
    · intro w' hR hM
      rintro _ rfl -
      rintro _ rfl -
      rintro _ rfl -
      rintro _ ⟨_, rfl, -⟩ -
      rintro _ ⟨_, rfl, -⟩ -
      rintro _ ⟨_, rfl, -⟩ -
      rintro _ rfl -
      rintro _ ⟨gb, rfl, gbB, gbz, -, -⟩ -
      rintro _ - gbS
      rintro _ rfl -
    --END
    --END
      dsimp only [EndAllL, Act.put]
      simp only [List.setIfInBounds_toArray, List.set_cons_zero, List.set_cons_succ]
      obtain ⟨w6, rfl⟩ : ∃ z, z = w' := ⟨_, rfl⟩
      have hgk := gbS _ rfl
      obtain ⟨gz, hgb⟩ := hgk
      have hgb2 := hgb
      obtain ⟨-, V1, ⟨gc, gf⟩, hg0⟩ := hgb
      have gg := Lib.hid (box_neX hgb2 (xt_ne _ _ _) hg0)
      replace gc : ∀ o, w6.cell? ⟨gb, o, none⟩ = #[S f2, S m2, V1][o]? := gc
      replace hg0 : OwnP w6 _ V1 p2 := hg0
      have gd := Lib.hid (ho_ne hg0 (show db < _ by first | omega | (simp; done) | (simp; omega)))
      have gh := Lib.hid (ho_ne hg0 (show w.heap.size < _ by first | omega | (simp; done) | (simp; omega)))
      have gk := Lib.hid (ho_ne hg0 (show w.heap.size + 1 < _ by first | omega | (simp; done) | (simp; omega)))
      have n2 := Lib.hid (own_ne HO0.out hg0 (Nat.le_refl _))
      have n3 := Lib.hid (own_ne HX0.out hg0 (Nat.le_refl _))
      have hB6 : Below w5.heap.size w5 w6 := hR.of_drew.to_below
      have hW := HW.out
      have hb := hB6
      have gy := gz
      have hB : Below w5.heap.size w5 w6 := (by (repeat (first | exact Below.refl _ _ | assumption | refine Below.drew ?_ | refine up_drewN ?_ _ | refine up_alloc ?_ _ | refine up_set ?_ _ _ (by first | exact Nat.le_refl _ | (simp; done) | (simp; omega) | omega) | refine up_trans ?_ (by assumption)))); replace hc := up_c hB hz hc; replace hf := up_f hB hz hf; replace hz := Nat.lt_of_lt_of_le hz hB.size; replace cc := up_c hB cz cc; replace cf := up_f hB cz cf; replace cz := Nat.lt_of_lt_of_le cz hB.size; replace dc := up_c hB dz dc; replace df := up_f hB dz df; replace dz := Nat.lt_of_lt_of_le dz hB.size; replace xc := up_c hB xz xc; replace xf := up_f hB xz xf; replace xz := Nat.lt_of_lt_of_le xz hB.size; have sw6 := hB.size; replace hW := up_trans hW hB; clear hB
      have HX1 := Lib.hid (own_base (own_up HX0.out hB6) (show w.heap.size ≤ _ by first | omega | (simp; done) | (simp; omega)))
      have HO1 := Lib.hid (own_base (own_up HO0.out hB6) (show w.heap.size ≤ _ by first | omega | (simp; done) | (simp; omega)))
      have HG1 := Lib.hid (own_base hg0 (show w.heap.size ≤ _ by first | omega | (simp; done) | (simp; omega)))
      obtain ⟨GA, GC, rfl, -, -⟩ := (RdL.of_own (f := pcC) (bs := p2) hg0).form
      have sx5 : ¬ gb = db := by omega
      have sx6 : ¬ db = gb := by omega
      have sgb : w4.heap.size < gb := by omega
      clear hR hM HW hb hB6 gbS hgb2 gbz hg0 HO0 HX0
      go_wp2_with fail
      refine (eqTable_same f2 m2 _ _ p2 _ (RdL.of_own HG1.out) (RdL.of_own HO1.out)).mono ?_
      rintro e w7 ⟨rfl, hb⟩
      have ho0 := HO1.out
      have hx0 := HX1.out
      have hg0 := HG1.out
      have hB : Below w6.heap.size w6 w7 := (by (repeat (first | exact Below.refl _ _ | assumption | refine Below.drew ?_ | refine up_drewN ?_ _ | refine up_alloc ?_ _ | refine up_set ?_ _ _ (by first | exact Nat.le_refl _ | (simp; done) | (simp; omega) | omega) | refine up_trans ?_ (by assumption)))); replace hc := up_c hB hz hc; replace hf := up_f hB hz hf; replace hz := Nat.lt_of_lt_of_le hz hB.size; replace cc := up_c hB cz cc; replace cf := up_f hB cz cf; replace cz := Nat.lt_of_lt_of_le cz hB.size; replace dc := up_c hB dz dc; replace df := up_f hB dz df; replace dz := Nat.lt_of_lt_of_le dz hB.size; replace xc := up_c hB xz xc; replace xf := up_f hB xz xf; replace xz := Nat.lt_of_lt_of_le xz hB.size; replace gc := up_c hB gz gc; replace gf := up_f hB gz gf; replace gz := Nat.lt_of_lt_of_le gz hB.size; replace ho0 := own_up ho0 hB; replace hx0 := own_up hx0 hB; replace hg0 := own_up hg0 hB; have sw7 := hB.size; replace hW := up_trans hW hB; clear hB
      have HO0 := Lib.hid ho0
      have HX0 := Lib.hid hx0
      have HG0 := Lib.hid hg0
      have HW := Lib.hid hW
      clear hb hW ho0 hx0 hg0 HO1 HX1 HG1
      go_upto_region 13 with (fail)
      --EVER{laws.FnExactTableChange;13;xt13}
      refine wp_region_ever (R := RS []) (M := fun _ _ => True) [tEq _ (.agg #[S f, S m, .slice XA ps.length XC]), tEq _ (.agg #[S f, S m, .slice A ps.length c]), tTabR f m ps, tEq _ (.bool true), tEq _ (.bool false)] (by kernel_rfl) (RS.refl _) (fun _ _ _ => RS.trans) (by kernel_rfl) (trivial) ?_ ?_
      · refine ⟨?_, ?_, ?_, ?_, ?_, trivial⟩
        · intro k' w' ρ hk' hR hM hF
          replace hk' : k' < 5 := hk'
          obtain ⟨f0, -⟩ := hF
          replace f0 : ρ (.tmp 8) = .pointer (some ⟨w4.heap.size, 0, none⟩) := f0
          refine good_of fun K hK => ?_
          have z0 := (hR.of_drew.cell xz (by simp) 0).trans (xc 0); have z1 := (hR.of_drew.cell xz (by simp) 1).trans (xc 1); have z2 := (hR.of_drew.cell xz (by simp) 2).trans (xc 2); go_simp; exact hK _ _ (RS.refl _ _) (trivial) rfl
        · intro k' w' ρ hk' hR hM hF
          replace hk' : k' < 5 := hk'
          obtain ⟨f0, -⟩ := hF
          replace f0 : ρ (.tmp 2) = .pointer (some ⟨w.heap.size, 0, none⟩) := f0
          refine good_of fun K hK => ?_
          have z0 := (hR.of_drew.cell hz (by simp) 0).trans (hc 0); have z1 := (hR.of_drew.cell hz (by simp) 1).trans (hc 1); have z2 := (hR.of_drew.cell hz (by simp) 2).trans (hc 2); go_simp; exact hK _ _ (RS.refl _ _) (trivial) rfl
        · intro k' w' ρ hk' hR hM hF
          replace hk' : k' < 5 := hk'
          obtain ⟨f0, f1, -⟩ := hF
          replace f0 : ρ (.func _) = .func (.func _) #[] #[] := f0
          replace f1 : ρ (.tmp 53) = .agg #[S f, S m, .slice A ps.length c] := f1
          refine good_of fun K hK => ?_
          have HU := Lib.hid (H0.out.up (up_trans HW.out hR.of_drew.to_below)); go_simp; refine (toTable_any f m _ ps _ HU.out hs1).mono ?_; rintro e wc ⟨u, rfl, ho, hb⟩; exact ⟨_, rfl, hK _ _ ((RS.refl _ _).below hb) trivial ⟨u, rfl, RdL.of_own ho⟩⟩
        · intro k' w' ρ hk' hR hM hF
          replace hk' : k' < 5 := hk'
          obtain ⟨f0, f1, f2, -⟩ := hF
          replace f0 : ρ (.func _) = .func (.func _) #[] #[] := f0
          replace f1 : ρ (.tmp 52) = .agg #[S f, S m, .slice XA ps.length XC] := f1
          refine good_of fun K hK => ?_
          obtain ⟨u, f2, hu⟩ := f2; replace f2 : ρ (.tmp _) = .agg #[S f, S m, u] := f2; have HX := Lib.hid (RdL.of_own (f := pcC) (bs := ps) (own_up HX0.out hR.of_drew.to_below)); have HU := Lib.hid hu; clear hu; go_simp; refine (eqTable_same f m _ _ ps _ HX.out HU.out).mono ?_; rintro e wc ⟨rfl, hb⟩; exact ⟨_, rfl, hK _ _ ((RS.refl _ _).below hb) trivial rfl⟩
        · intro k' w' ρ hk' hR hM hF
          replace hk' : k' < 5 := hk'
          obtain ⟨f0, -⟩ := hF
          replace f0 : ρ (.tmp 55) = .bool true := f0
          refine good_of fun K hK => ?_
          go_simp
          exact hK _ _ (RS.refl _ _) (trivial) (rfl)
      · intro w' hR hM
        rintro _ rfl
        rintro _ rfl
        rintro _ ⟨_, rfl, -⟩
        rintro _ rfl
        rintro _ rfl
      --END
      --END
        dsimp only [EndAll, Act.put]
        obtain ⟨w8, rfl⟩ : ∃ z, z = w' := ⟨_, rfl⟩
        have hB8 : Below w7.heap.size w7 w8 := hR.of_drew.to_below
        have hW := HW.out
        have hx0 := HX0.out
        have hg0 := HG0.out
        have ho0 := HO0.out
        have hb := hB8
        have hB : Below w7.heap.size w7 w8 := (by (repeat (first | exact Below.refl _ _ | assumption | refine Below.drew ?_ | refine up_drewN ?_ _ | refine up_alloc ?_ _ | refine up_set ?_ _ _ (by first | exact Nat.le_refl _ | (simp; done) | (simp; omega) | omega) | refine up_trans ?_ (by assumption)))); replace hc := up_c hB hz hc; replace hf := up_f hB hz hf; replace hz := Nat.lt_of_lt_of_le hz hB.size; replace cc := up_c hB cz cc; replace cf := up_f hB cz cf; replace cz := Nat.lt_of_lt_of_le cz hB.size; replace dc := up_c hB dz dc; replace df := up_f hB dz df; replace dz := Nat.lt_of_lt_of_le dz hB.size; replace xc := up_c hB xz xc; replace xf := up_f hB xz xf; replace xz := Nat.lt_of_lt_of_le xz hB.size; replace gc := up_c hB gz gc; replace gf := up_f hB gz gf; replace gz := Nat.lt_of_lt_of_le gz hB.size; replace ho0 := own_up ho0 hB; replace hx0 := own_up hx0 hB; replace hg0 := own_up hg0 hB; have sw8 := hB.size; replace hW := up_trans hW hB; clear hB
        replace HO0 := Lib.hid ho0
        replace HG0 := Lib.hid hg0
        clear hR hM HW hB8 hb HX0 ho0 hg0
        go_wp2_with fail
        refine (markTable_any _ f m _ ps.length _ _ hs1 hx0).mono ?_
        rintro e w9 ⟨rfl, _, hgr⟩
        have ho0 := HO0.out.kept hgr n1.out
        have hg0 := HG0.out.kept hgr (ne_swap n3.out)
        replace hW := up_grown hW hgr (own_lt hx0 (by omega))
        replace hc := gk_c hgr hz xh.out hc
        replace hf := gk_f hgr hz xh.out hf
        replace hz := Nat.lt_of_lt_of_le hz hgr.size
        replace cc := gk_c hgr cz xk.out cc
        replace cf := gk_f hgr cz xk.out cf
        replace cz := Nat.lt_of_lt_of_le cz hgr.size
        replace dc := gk_c hgr dz xd.out dc
        replace df := gk_f hgr dz xd.out df
        replace dz := Nat.lt_of_lt_of_le dz hgr.size
        replace gc := gk_c hgr gz (xx.out _ (by omega)) gc
        replace gf := gk_f hgr gz (xx.out _ (by omega)) gf
        replace gz := Nat.lt_of_lt_of_le gz hgr.size
        have sw9 : w8.heap.size ≤ w9.heap.size := hgr.size
        have p1 : ¬ ((1 + 3 * ps.length : Nat) : Int) < 0 := by omega
        replace HO0 := Lib.hid ho0
        replace HG0 := Lib.hid hg0
        clear hgr hx0 n1 n3 xd xh xk xx xc xf xz xy ho0 hg0
        go_wp2_with fail
        refine (eqTable_same f2 m2 _ _ p2 _ (RdL.of_own HG0.out) (RdL.of_own HO0.out)).mono ?_
        rintro e w10 ⟨rfl, hb⟩
        have ho0 := HO0.out
        have hg0 := HG0.out
        have hB : Below w9.heap.size w9 w10 := (by (repeat (first | exact Below.refl _ _ | assumption | refine Below.drew ?_ | refine up_drewN ?_ _ | refine up_alloc ?_ _ | refine up_set ?_ _ _ (by first | exact Nat.le_refl _ | (simp; done) | (simp; omega) | omega) | refine up_trans ?_ (by assumption)))); replace hc := up_c hB hz hc; replace hf := up_f hB hz hf; replace hz := Nat.lt_of_lt_of_le hz hB.size; replace cc := up_c hB cz cc; replace cf := up_f hB cz cf; replace cz := Nat.lt_of_lt_of_le cz hB.size; replace dc := up_c hB dz dc; replace df := up_f hB dz df; replace dz := Nat.lt_of_lt_of_le dz hB.size; replace gc := up_c hB gz gc; replace gf := up_f hB gz gf; replace gz := Nat.lt_of_lt_of_le gz hB.size; replace ho0 := own_up ho0 hB; replace hg0 := own_up hg0 hB; have sw10 := hB.size; replace hW := up_trans hW hB; clear hB
        replace HO0 := Lib.hid ho0
        clear hb p1 ho0
        go_wp2_with fail
        refine (markTable_any _ f2 m2 _ p2.length _ _ hm2 hg0).mono ?_
        rintro e w11 ⟨rfl, hg1, hgr⟩
        have ho0 := HO0.out.kept hgr n2.out
        replace hW := up_grown hW hgr (own_lt hg0 (by omega))
        replace hc := gk_c hgr hz gh.out hc
        replace hf := gk_f hgr hz gh.out hf
        replace hz := Nat.lt_of_lt_of_le hz hgr.size
        replace cc := gk_c hgr cz gk.out cc
        replace cf := gk_f hgr cz gk.out cf
        replace cz := Nat.lt_of_lt_of_le cz hgr.size
        replace dc := gk_c hgr dz gd.out dc
        replace df := gk_f hgr dz gd.out df
        replace dz := Nat.lt_of_lt_of_le dz hgr.size
        replace gc := gk_c hgr gz gg.out gc
        replace gf := gk_f hgr gz gg.out gf
        replace gz := Nat.lt_of_lt_of_le gz hgr.size
        have sw11 : w10.heap.size ≤ w11.heap.size := hgr.size
        have hq : p2.length = (mkP p2.length).length := (mkP_len _).symm
        have HQ := Lib.hid hq
        replace HO0 := Lib.hid ho0
        have HG1 := Lib.hid hg1
        clear hgr hg0 n2 hq gh gd gg gk ho0 hg1
        go_wp2_with fail
        refine (heldTable_any f2 m2 _ p2.length _ hm2 (RdL.of_own (by rw [← HQ.out]; exact HG1.out))).mono ?_
        rintro e w12 ⟨rfl, hb⟩
        have ho0 := HO0.out
        have hg1 := HG1.out
        have hB : Below w11.heap.size w11 w12 := (by (repeat (first | exact Below.refl _ _ | assumption | refine Below.drew ?_ | refine up_drewN ?_ _ | refine up_alloc ?_ _ | refine up_set ?_ _ _ (by first | exact Nat.le_refl _ | (simp; done) | (simp; omega) | omega) | refine up_trans ?_ (by assumption)))); replace hc := up_c hB hz hc; replace hf := up_f hB hz hf; replace hz := Nat.lt_of_lt_of_le hz hB.size; replace cc := up_c hB cz cc; replace cf := up_f hB cz cf; replace cz := Nat.lt_of_lt_of_le cz hB.size; replace dc := up_c hB dz dc; replace df := up_f hB dz df; replace dz := Nat.lt_of_lt_of_le dz hB.size; replace gc := up_c hB gz gc; replace gf := up_f hB gz gf; replace gz := Nat.lt_of_lt_of_le gz hB.size; replace ho0 := own_up ho0 hB; replace hg1 := own_up hg1 hB; have sw12 := hB.size; replace hW := up_trans hW hB; clear hB
        replace HO0 := Lib.hid ho0
        replace HG1 := Lib.hid hg1
        have HW := Lib.hid hW
        clear hb ho0 hg1 hW
        have p1 : ¬ ((1 + 3 * p2.length : Nat) : Int) < 0 := by omega
        go_wp2_with fail
        --EVER{laws.FnExactTableChange;27;xt27}
        refine wp_region_everL (R := RX (XT f2 m2 p2) w12.heap.size w12.heap.size) (M := fun _ _ => True) 0 (fun _ => True) [(xEq _ _ _ (.agg #[S f, S m, .slice A ps.length c])).l, (xRow (XT f2 m2 p2) _ _ (fun u => .agg #[S f, S m, u]) 79 (xt_ne _ _ _) 3 ps.length (ps.flatMap pcC)).l, (xEq _ _ _ (.agg #[.int .i64 qa, .int .i64 qc, S qp])).l, (xEq _ _ _ (.agg #[.int .i64 qa, .int .i64 qc, S qp])).l, (xRow (XT f2 m2 p2) _ _ (fun u => .tuple #[.agg #[S f2, S m2, u], .bool ok]) 79 (xt_ne _ _ _) 3 p2.length (p2.flatMap pcC)).l, (xRow (XT f2 m2 p2) _ _ (fun u => .tuple #[.agg #[S f2, S m2, u], .bool ok]) 79 (xt_ne _ _ _) 3 p2.length (p2.flatMap pcC)).l, (xRow (XT f2 m2 p2) _ _ (fun u => .agg #[S f2, S m2, u]) 79 (xt_ne _ _ _) 3 p2.length (p2.flatMap pcC)).l, (xEq _ _ _ (.bool ok)).l, (xBox (XT f2 m2 p2) _ _).l, xPut (XT f2 m2 p2) _ _ 14, (xEq _ _ _ (.bool ok)).l] (by kernel_rfl) (RX.refl _ _ _) (fun _ _ _ => RX.trans) (by kernel_rfl) (by kernel_rfl) (trivial) (trivial) ?_ ?_
        · refine ⟨?_, ?_, ?_, ?_, ?_, ?_, ?_, ?_, ?_, ?_, ?_, trivial⟩
          · intro k' w' ρ hk' hR hM hD hF
            replace hk' : k' < 11 := hk'
            obtain ⟨f0, -⟩ := hF
            replace f0 : ρ (.tmp 2) = .pointer (some ⟨w.heap.size, 0, none⟩) := f0
            refine goodL_of (fun _ => trivial) fun K hK => ?_
            have z0 := (hR.of_drew.cell hz hz  0).trans (hc 0); have z1 := (hR.of_drew.cell hz hz  1).trans (hc 1); have z2 := (hR.of_drew.cell hz hz  2).trans (hc 2); go_simp; exact hK _ _ (RX.refl _ _ _ _) (⟨trivial, fun _ h => h⟩) rfl
          · intro k' w' ρ hk' hR hM hD hF
            replace hk' : k' < 11 := hk'
            obtain ⟨f0, f1, -⟩ := hF
            replace f0 : ρ (.func _) = .func (.func _) #[] #[] := f0
            replace f1 : ρ (.tmp 85) = .agg #[S f, S m, .slice A ps.length c] := f1
            refine goodL_of (fun _ => trivial) fun K hK => ?_
            go_simp; refine (toTable_any f m _ ps _ (H0.out.up (up_trans HW.out hR.of_drew.to_below)) hs1).mono ?_; rintro e wc ⟨u, rfl, ho, hb⟩; exact ⟨_, rfl, hK _ _ (RX.of_below hb) ⟨trivial, fun _ _ => trivial⟩ ⟨u, rfl, own_base ho hR.size⟩⟩
          · intro k' w' ρ hk' hR hM hD hF
            replace hk' : k' < 11 := hk'
            obtain ⟨f0, -⟩ := hF
            replace f0 : ρ (.tmp 3) = .pointer (some ⟨w.heap.size + 1, 0, none⟩) := f0
            refine goodL_of (fun _ => trivial) fun K hK => ?_
            have z0 := (hR.of_drew.cell cz cz  0).trans (cc 0); have z1 := (hR.of_drew.cell cz cz  1).trans (cc 1); have z2 := (hR.of_drew.cell cz cz  2).trans (cc 2); go_simp; exact hK _ _ (RX.refl _ _ _ _) (⟨trivial, fun _ h => h⟩) rfl
          · intro k' w' ρ hk' hR hM hD hF
            replace hk' : k' < 11 := hk'
            obtain ⟨f0, f1, -⟩ := hF
            replace f0 : ρ (.func _) = .func (.func _) #[] #[] := f0
            replace f1 : ρ (.tmp 87) = .agg #[.int .i64 qa, .int .i64 qc, S qp] := f1
            refine goodL_of (fun _ => trivial) fun K hK => ?_
            go_simp; refine (toChange_any qa qc qp _).mono ?_; rintro e wc ⟨rfl, hb⟩; exact ⟨_, rfl, hK _ _ (RX.of_below hb) ⟨trivial, fun _ _ => trivial⟩ rfl⟩
          · intro k' w' ρ hk' hR hM hD hF
            replace hk' : k' < 11 := hk'
            obtain ⟨f0, f1, f2, -⟩ := hF
            replace f0 : ρ (.func _) = .func (.func _) #[] #[] := f0
            replace f2 : ρ (.tmp 88) = .agg #[.int .i64 qa, .int .i64 qc, S qp] := f2
            refine goodL_of (fun _ => trivial) fun K hK => ?_
            obtain ⟨u1, f1, q1⟩ := f1; replace f1 : ρ (.tmp _) = .agg #[S f, S m, u1] := f1; have Q1 := Lib.hid (RdL.of_own (f := pcC) (bs := ps) q1); clear q1; go_simp; refine (FI.out _ _ Q1.out).mono ?_; rintro e wc ⟨v0, rfl, ho, hb⟩; exact ⟨_, rfl, hK _ _ (RX.of_below hb) ⟨trivial, fun _ _ => trivial⟩ ⟨v0, rfl, own_base ho hR.size⟩⟩
          · intro k' w' ρ hk' hR hM hD hF
            replace hk' : k' < 11 := hk'
            obtain ⟨f0, -⟩ := hF
            exact ⟨RX.refl _ _ _ _, ⟨trivial, fun _ h => h⟩, f0, trivial⟩
          · intro k' w' ρ hk' hR hM hD hF
            replace hk' : k' < 11 := hk'
            obtain ⟨f0, -⟩ := hF
            refine goodL_of (fun _ => trivial) fun K hK => ?_
            obtain ⟨v0, f0, q0⟩ := f0; replace f0 : ρ (.tmp _) = .tuple #[.agg #[S f2, S m2, v0], .bool ok] := f0; have Q0 := Lib.hid q0; clear q0; go_simp; exact hK _ _ (RX.refl _ _ _ _) ⟨trivial, fun _ h => h⟩ ⟨v0, rfl, Q0.out⟩
          · intro k' w' ρ hk' hR hM hD hF
            replace hk' : k' < 11 := hk'
            obtain ⟨f0, -⟩ := hF
            refine goodL_of (fun _ => trivial) fun K hK => ?_
            obtain ⟨v0, f0, q0⟩ := f0; replace f0 : ρ (.tmp _) = .tuple #[.agg #[S f2, S m2, v0], .bool ok] := f0; have Q0 := Lib.hid q0; clear q0; go_simp; exact hK _ _ (RX.refl _ _ _ _) ⟨trivial, fun _ h => h⟩ rfl
          · intro k' w' ρ hk' hR hM hD hF
            replace hk' : k' < 11 := hk'
            refine goodL_of (fun _ => trivial) fun K hK => ?_
            have hBz : _ ≤ w'.heap.size := hR.size; go_simp; exact hK _ _ (RX.of_below (up_alloc (Below.refl _ _) _)) ⟨trivial, fun _ _ => trivial⟩ ⟨_, rfl, hBz, by simp, (xbox_mk (XT f2 m2 p2) _ _ rfl).1, (xbox_mk (XT f2 m2 p2) _ _ rfl).2⟩
          · intro k' w' ρ hk' hR hM hD hF
            replace hk' : k' < 11 := hk'
            obtain ⟨f0, f1, -⟩ := hF
            refine goodL_ofs fun K hK => ?_
            obtain ⟨bi, f0, bB, bz, bT, bI⟩ := f0; replace f0 : ρ (.tmp 14) = .pointer (some ⟨bi, 0, none⟩) := f0; obtain ⟨u1, f1, q1⟩ := f1; obtain ⟨A1, c1, rfl, -, -⟩ := (RdL.of_own (f := pcC) (bs := p2) q1).form; replace f1 : ρ (.tmp _) = .agg #[S f2, S m2, .slice A1 p2.length c1] := f1; obtain ⟨bK, bG⟩ := xput_mk (X := (XT f2 m2 p2)) bT bI q1 bB; obtain ⟨bV, hbV, bI⟩ := bI; obtain ⟨b0, b1, b2, e0, e1, e2⟩ := bI.three hbV; have qf := bI.2; clear bI q1; go_simp; refine hK _ _ bG ⟨trivial, fun _ _ => trivial⟩ trivial ?_; intro i hi; replace hi := hi.symm.trans f0; cases hi; exact ⟨by simpa [World.setCell] using bz, bK⟩
          · intro k' w' ρ hk' hR hM hD hF
            replace hk' : k' < 11 := hk'
            obtain ⟨f0, -⟩ := hF
            replace f0 : ρ (.tmp 91) = .bool ok := f0
            exact ⟨RX.refl _ _ _ _, ⟨trivial, fun _ h => h⟩, f0, trivial⟩
        · intro w' hR hM
          rintro _ rfl -
          rintro _ ⟨_, rfl, -⟩ -
          rintro _ rfl -
          rintro _ rfl -
          rintro _ ⟨_, rfl, -⟩ -
          rintro _ ⟨_, rfl, -⟩ -
          rintro _ ⟨_, rfl, -⟩ -
          rintro _ rfl -
          rintro _ ⟨ub, rfl, ubB, ubz, -, -⟩ -
          rintro _ - ubS
          rintro _ rfl -
        --END
        --END
          dsimp only [EndAllL, Act.put]
          simp only [List.setIfInBounds_toArray, List.set_cons_zero, List.set_cons_succ]
          obtain ⟨w14, rfl⟩ : ∃ z, z = w' := ⟨_, rfl⟩
          obtain ⟨uz, -, V2, ⟨uc, uf⟩, hh0⟩ := ubS _ rfl
          replace uc : ∀ o, w14.cell? ⟨ub, o, none⟩ = #[S f2, S m2, V2][o]? := uc
          replace hh0 : OwnP w14 _ V2 p2 := hh0
          have uy := uz
          have hB14 : Below w12.heap.size w12 w14 := hR.of_drew.to_below
          have hW := HW.out
          have ho0 := HO0.out
          have hg1 := HG1.out
          have hb := hB14
          have hB : Below w12.heap.size w12 w14 := (by (repeat (first | exact Below.refl _ _ | assumption | refine Below.drew ?_ | refine up_drewN ?_ _ | refine up_alloc ?_ _ | refine up_set ?_ _ _ (by first | exact Nat.le_refl _ | (simp; done) | (simp; omega) | omega) | refine up_trans ?_ (by assumption)))); replace dc := up_c hB dz dc; replace df := up_f hB dz df; replace dz := Nat.lt_of_lt_of_le dz hB.size; replace gc := up_c hB gz gc; replace gf := up_f hB gz gf; replace gz := Nat.lt_of_lt_of_le gz hB.size; replace ho0 := own_up ho0 hB; replace hg1 := own_up hg1 hB; have sw14 := hB.size; replace hW := up_trans hW hB; clear hB
          obtain ⟨UA, UC, rfl, -, -⟩ := (RdL.of_own (f := pcC) (bs := p2) hh0).form
          replace HO0 := Lib.hid ho0
          replace HG1 := Lib.hid hg1
          have HH0 := Lib.hid hh0
          clear hR hM HW hb hB14 ubS ubz ho0 hg1 hh0 hc hf hz hy cc cf cz cy
          go_wp2_with fail
          refine (eqTable_same f2 m2 _ _ p2 _ (RdL.of_own HH0.out) (RdL.of_own HO0.out)).mono ?_
          rintro e w15 ⟨rfl, hb⟩
          have hg1 := HG1.out
          have hB : Below w14.heap.size w14 w15 := (by (repeat (first | exact Below.refl _ _ | assumption | refine Below.drew ?_ | refine up_drewN ?_ _ | refine up_alloc ?_ _ | refine up_set ?_ _ _ (by first | exact Nat.le_refl _ | (simp; done) | (simp; omega) | omega) | refine up_trans ?_ (by assumption)))); replace gc := up_c hB gz gc; replace gf := up_f hB gz gf; replace gz := Nat.lt_of_lt_of_le gz hB.size; replace hg1 := own_up hg1 hB; have sw15 := hB.size; replace hW := up_trans hW hB; clear hB
          replace HG1 := Lib.hid hg1
          clear hb HH0 HO0 dc df dz dy uc uf uz uy hg1
          go_wp2_with fail
          refine (heldTable_any f2 m2 _ p2.length _ hm2 (RdL.of_own (by rw [← HQ.out]; exact HG1.out))).mono ?_
          rintro e w16 ⟨rfl, hb⟩
          have hB : Below w15.heap.size w15 w16 := (by (repeat (first | exact Below.refl _ _ | assumption | refine Below.drew ?_ | refine up_drewN ?_ _ | refine up_alloc ?_ _ | refine up_set ?_ _ _ (by first | exact Nat.le_refl _ | (simp; done) | (simp; omega) | omega) | refine up_trans ?_ (by assumption)))); have sw16 := hB.size; replace hW := up_trans hW hB; clear hB
          clear hb
          go_wp2_with fail
          go_ret
          exact ⟨rfl, hW⟩

end Go.Proofs.Ytlejfmngpbcdhaa
