/- What is proved here: the walk of the law FnExactHistoryRecords. Condition: what the table of powers of ten holds. -/
import Derived.Test.YtdngdlcibaiekaaGreatDoorHEx1
import Derived.Test.YtdngdlcibaiekaaGreatDoorRcH
import Derived.Test.YtdngdlcibaiekaaGreatDoorStrS
namespace Go.Proofs.YtdngdlcibaiekaaGreatDoor
open Go.RowKit
set_option linter.unusedVariables false

theorem hr_both (ms : List Mo) (a : Int) (s : List UInt8) (hn : ms.length ≤ 1048576) (hs : s.length ≤ maxLen) : ∃ rs : List (List UInt8), rs.length ≤ 30 ∧
    (∀ v w, RdM w v ms → LT w → Calls Tryz.prog 28 #[.agg #[v, .int .i64 a], S s] w (HrPost rs w)) ∧ (∀ v w, RdM w v ms → Calls Tryz.prog 26 #[.agg #[v, .int .i64 a], S s] w (HrPost rs w)) := by
  by_cases hg : ∃ o, HGood ms a s o
  · obtain ⟨o, hg⟩ := hg
    exact ⟨hrR ms a, Nat.le_trans (hrF_len ms _ _) hg.n30, fun v w h hL => implHr_yes v ms a s w o h hg hL, fun v w h => specHr_yes v ms a s w o h hg⟩
  · exact ⟨[], by simp, fun v w h hL => implHr_no v ms a s w h hn hs hg, fun v w h => specHr_no v ms a s w h hn hs hg⟩

set_option maxRecDepth 100000 in
set_option maxHeartbeats 2000000 in
theorem exactHistoryRecords_walk (v : Value) (ms : List Mo) (a : Int) (s : List UInt8) (hs : s.length ≤ maxLen) (w : World) (h : RdM0 w v ms) (hL : LT w) :
    Calls Tryz.prog 8 #[.agg #[v, .int .i64 a], .string ⟨s.toArray⟩] w fun e w' => e = .returned (.bool true) ∧ Below w.heap.size w w' := by
  have hW := Below.refl w.heap.size w
  obtain ⟨A, c, rfl, hm, _⟩ := h.1.form
  by_cases l1 : 1048576 < s.length
  · go_enter Tryz.func8, Tryz.ntmps8
    go_wp2_with fail
    go_ret
    exact ⟨rfl, by (repeat (first | exact Below.refl _ _ | assumption | refine Below.drew ?_ | refine up_drewN ?_ _ | refine up_alloc ?_ _ | refine up_set ?_ _ _ (by first | exact Nat.le_refl _ | (simp; done) | (simp; omega) | omega) | refine up_trans ?_ (by assumption)))⟩
  have H0 := Lib.hid h
  have HLT := Lib.hid hL
  clear h hL
  go_enter Tryz.func8, Tryz.ntmps8
  go_wp2_with fail
  refine (szHistory_any _ ms a _ _ (H0.out.up (by (repeat (first | exact Below.refl _ _ | assumption | refine Below.drew ?_ | refine up_drewN ?_ _ | refine up_alloc ?_ _ | refine up_set ?_ _ _ (by first | exact Nat.le_refl _ | (simp; done) | (simp; omega) | omega) | refine up_trans ?_ (by assumption))))) (by omega) (by omega)).mono ?_
  rintro e w1 ⟨r, rfl, hr1, hr2, hb⟩
  have hc : ∀ o, w1.cell? ⟨w.heap.size, o, none⟩ = #[.slice A ms.length c, .int .i64 a][o]? := (fun o => (hb.cell (p := ⟨w.heap.size, o, none⟩) (by simp <;> omega)).trans (by simp [go_sem])); have hf : ∀ o, w1.frozen? ⟨w.heap.size, o, none⟩ = false := (fun o => (hb.frozen (p := ⟨w.heap.size, o, none⟩) (by simp <;> omega)).trans (by simp [go_sem])); have hz : w.heap.size < w1.heap.size := (by have := hb.size; (try simp at this); omega); have hy := hz
  have hB : Below w.heap.size w w1 := (by (repeat (first | exact Below.refl _ _ | assumption | refine Below.drew ?_ | refine up_drewN ?_ _ | refine up_alloc ?_ _ | refine up_set ?_ _ _ (by first | exact Nat.le_refl _ | (simp; done) | (simp; omega) | omega) | refine up_trans ?_ (by assumption)))); have sw1 := hB.size; replace hW := up_trans hW hB; clear hB
  clear hb
  by_cases hr0 : r < 0
  · clear hr2
    go_wp2_with fail
    go_ret
    exact ⟨rfl, hW⟩
  have hsm := hr2 (by omega)
  have hs1 := hsm.1
  have HS := Lib.hid hsm
  clear hr2 hsm
  obtain ⟨rs, hrs, fI, fS⟩ := hr_both ms a s hs1 (by unfold maxLen; omega)
  have FI := Lib.hid fI
  have FS := Lib.hid fS
  clear fI fS
  go_wp2_with fail
  refine (toHistory_any _ ms a _ (H0.out.up hW) hs1).mono ?_
  rintro e w2 ⟨y1, rfl, hy1, hb⟩
  have R1 := Lib.hid (rdM0_of hy1 HS.out)
  obtain ⟨YA, YC, rfl, -, -⟩ := (RdL.of_own (f := moC) (bs := ms) hy1).form
  have hB : Below w1.heap.size w1 w2 := (by (repeat (first | exact Below.refl _ _ | assumption | refine Below.drew ?_ | refine up_drewN ?_ _ | refine up_alloc ?_ _ | refine up_set ?_ _ _ (by first | exact Nat.le_refl _ | (simp; done) | (simp; omega) | omega) | refine up_trans ?_ (by assumption)))); replace hc := up_c hB hz hc; replace hf := up_f hB hz hf; replace hz := Nat.lt_of_lt_of_le hz hB.size; have sw2 := hB.size; replace hW := up_trans hW hB; clear hB
  clear hb hy1
  go_wp2_with fail
  refine (FS.out _ _ R1.out).mono ?_
  rintro e w3 ⟨v0, rfl, ho0, hb⟩
  have hB : Below w2.heap.size w2 w3 := (by (repeat (first | exact Below.refl _ _ | assumption | refine Below.drew ?_ | refine up_drewN ?_ _ | refine up_alloc ?_ _ | refine up_set ?_ _ _ (by first | exact Nat.le_refl _ | (simp; done) | (simp; omega) | omega) | refine up_trans ?_ (by assumption)))); replace hc := up_c hB hz hc; replace hf := up_f hB hz hf; replace hz := Nat.lt_of_lt_of_le hz hB.size; have sw3 := hB.size; replace hW := up_trans hW hB; clear hB
  obtain ⟨VA, VC, rfl, -, -⟩ := (RdL.of_own (f := strC) (bs := rs) ho0).form
  clear hb R1
  go_wp2_with fail
  refine (toHistory_any _ ms a _ (H0.out.up hW) hs1).mono ?_
  rintro e w4 ⟨x0, rfl, hx0, hb⟩
  have n1 := Lib.hid (own_ne ho0 hx0 (Nat.le_refl _))
  have xh := Lib.hid (ho_ne hx0 (show w.heap.size < _ by first | omega | (simp; done) | (simp; omega)))
  have hB : Below w3.heap.size w3 w4 := (by (repeat (first | exact Below.refl _ _ | assumption | refine Below.drew ?_ | refine up_drewN ?_ _ | refine up_alloc ?_ _ | refine up_set ?_ _ _ (by first | exact Nat.le_refl _ | (simp; done) | (simp; omega) | omega) | refine up_trans ?_ (by assumption)))); replace hc := up_c hB hz hc; replace hf := up_f hB hz hf; replace hz := Nat.lt_of_lt_of_le hz hB.size; replace ho0 := own_up ho0 hB; have sw4 := hB.size; replace hW := up_trans hW hB; clear hB
  obtain ⟨XA, XC, rfl, -, -⟩ := (RdL.of_own (f := moC) (bs := ms) hx0).form
  have R2 := Lib.hid (rdM0_of hx0 HS.out)
  replace hx0 := own_base hx0 (show w.heap.size ≤ _ by first | omega | (simp; done) | (simp; omega))
  replace ho0 := own_base ho0 (show w.heap.size ≤ _ by first | omega | (simp; done) | (simp; omega))
  clear hb
  go_wp2_with fail
  refine (FI.out _ _ (R2.out.up (by (repeat (first | exact Below.refl _ _ | assumption | refine Below.drew ?_ | refine up_drewN ?_ _ | refine up_alloc ?_ _ | refine up_set ?_ _ _ (by first | exact Nat.le_refl _ | (simp; done) | (simp; omega) | omega) | refine up_trans ?_ (by assumption))))) (HLT.out.up (by (repeat (first | exact Below.refl _ _ | assumption | refine Below.drew ?_ | refine up_drewN ?_ _ | refine up_alloc ?_ _ | refine up_set ?_ _ _ (by first | exact Nat.le_refl _ | (simp; done) | (simp; omega) | omega) | refine up_trans ?_ (by assumption)))))).mono ?_
  rintro e w5 ⟨g0, rfl, hg0, hb⟩
  have n2 := Lib.hid (own_ne ho0 hg0 (by first | omega | (simp; done) | (simp; omega)))
  have n3 := Lib.hid (own_ne hx0 hg0 (by first | omega | (simp; done) | (simp; omega)))
  have gh := Lib.hid (ho_ne hg0 (show w.heap.size < _ by first | omega | (simp; done) | (simp; omega)))
  have xc : ∀ o, w5.cell? ⟨w4.heap.size, o, none⟩ = #[.slice XA ms.length XC, .int .i64 a][o]? := (fun o => (hb.cell (p := ⟨w4.heap.size, o, none⟩) (by simp <;> omega)).trans (by simp [go_sem])); have xf : ∀ o, w5.frozen? ⟨w4.heap.size, o, none⟩ = false := (fun o => (hb.frozen (p := ⟨w4.heap.size, o, none⟩) (by simp <;> omega)).trans (by simp [go_sem])); have xz : w4.heap.size < w5.heap.size := (by have := hb.size; (try simp at this); omega); have xy := xz
  have hB : Below w4.heap.size w4 w5 := (by (repeat (first | exact Below.refl _ _ | assumption | refine Below.drew ?_ | refine up_drewN ?_ _ | refine up_alloc ?_ _ | refine up_set ?_ _ _ (by first | exact Nat.le_refl _ | (simp; done) | (simp; omega) | omega) | refine up_trans ?_ (by assumption)))); replace hc := up_c hB hz hc; replace hf := up_f hB hz hf; replace hz := Nat.lt_of_lt_of_le hz hB.size; replace ho0 := own_up ho0 hB; replace hx0 := own_up hx0 hB; have sw5 := hB.size; replace hW := up_trans hW hB; clear hB
  obtain ⟨GA, GC, rfl, -, -⟩ := (RdL.of_own (f := strC) (bs := rs) hg0).form
  replace hg0 := own_base hg0 (show w.heap.size ≤ _ by first | omega | (simp; done) | (simp; omega))
  have HO0 := Lib.hid ho0
  have HX0 := Lib.hid hx0
  have HG0 := Lib.hid hg0
  clear hb R2 ho0 hx0 hg0
  go_wp2_with fail
  refine (eqStringS_same _ _ rs _ (RdL.of_own HG0.out) (RdL.of_own HO0.out)).mono ?_
  rintro e w6 ⟨rfl, hb⟩
  have hB6 : Below w5.heap.size w5 w6 := by (repeat (first | exact Below.refl _ _ | assumption | refine Below.drew ?_ | refine up_drewN ?_ _ | refine up_alloc ?_ _ | refine up_set ?_ _ _ (by first | exact Nat.le_refl _ | (simp; done) | (simp; omega) | omega) | refine up_trans ?_ (by assumption)))
  replace HO0 := Lib.hid (own_up HO0.out hB6)
  replace HX0 := Lib.hid (own_up HX0.out hB6)
  replace HG0 := Lib.hid (own_up HG0.out hB6)
  have hB : Below w5.heap.size w5 w6 := (by (repeat (first | exact Below.refl _ _ | assumption | refine Below.drew ?_ | refine up_drewN ?_ _ | refine up_alloc ?_ _ | refine up_set ?_ _ _ (by first | exact Nat.le_refl _ | (simp; done) | (simp; omega) | omega) | refine up_trans ?_ (by assumption)))); replace hc := up_c hB hz hc; replace hf := up_f hB hz hf; replace hz := Nat.lt_of_lt_of_le hz hB.size; replace xc := up_c hB xz xc; replace xf := up_f hB xz xf; replace xz := Nat.lt_of_lt_of_le xz hB.size; have sw6 := hB.size; replace hW := up_trans hW hB; clear hB
  have HW := Lib.hid hW
  clear hb hW hB6
  go_upto_region 12 with (fail)
  --EVER{laws.FnExactHistoryRecords;12;xhr12}
  refine wp_region_ever (R := RS []) (M := fun _ _ => True) [tEq _ (.agg #[.slice XA ms.length XC, .int .i64 a]), tEq _ (.agg #[.slice A ms.length c, .int .i64 a]), tHisR ms a, tEq _ (.bool true), tEq _ (.bool false)] (by kernel_rfl) (RS.refl _) (fun _ _ _ => RS.trans) (by kernel_rfl) (trivial) ?_ ?_
  · refine ⟨?_, ?_, ?_, ?_, ?_, trivial⟩
    · intro k' w' ρ hk' hR hM hF
      replace hk' : k' < 5 := hk'
      obtain ⟨f0, -⟩ := hF
      replace f0 : ρ (.tmp 7) = .pointer (some ⟨w4.heap.size, 0, none⟩) := f0
      refine good_of fun K hK => ?_
      have z0 := (hR.of_drew.cell xz (by simp) 0).trans (xc 0); have z1 := (hR.of_drew.cell xz (by simp) 1).trans (xc 1); go_simp; exact hK _ _ (RS.refl _ _) (trivial) rfl
    · intro k' w' ρ hk' hR hM hF
      replace hk' : k' < 5 := hk'
      obtain ⟨f0, -⟩ := hF
      replace f0 : ρ (.tmp 2) = .pointer (some ⟨w.heap.size, 0, none⟩) := f0
      refine good_of fun K hK => ?_
      have z0 := (hR.of_drew.cell hz (by simp) 0).trans (hc 0); have z1 := (hR.of_drew.cell hz (by simp) 1).trans (hc 1); go_simp; exact hK _ _ (RS.refl _ _) (trivial) rfl
    · intro k' w' ρ hk' hR hM hF
      replace hk' : k' < 5 := hk'
      obtain ⟨f0, f1, -⟩ := hF
      replace f0 : ρ (.func _) = .func (.func _) #[] #[] := f0
      replace f1 : ρ (.tmp 35) = .agg #[.slice A ms.length c, .int .i64 a] := f1
      refine good_of fun K hK => ?_
      have HU := Lib.hid (H0.out.up (up_trans HW.out hR.of_drew.to_below)); go_simp; refine (toHistory_any _ ms a _ HU.out hs1).mono ?_; rintro e wc ⟨u, rfl, ho, hb⟩; exact ⟨_, rfl, hK _ _ ((RS.refl _ _).below hb) trivial ⟨u, rfl, RdL.of_own ho⟩⟩
    · intro k' w' ρ hk' hR hM hF
      replace hk' : k' < 5 := hk'
      obtain ⟨f0, f1, f2, -⟩ := hF
      replace f0 : ρ (.func _) = .func (.func _) #[] #[] := f0
      replace f1 : ρ (.tmp 34) = .agg #[.slice XA ms.length XC, .int .i64 a] := f1
      refine good_of fun K hK => ?_
      obtain ⟨u, f2, hu⟩ := f2; replace f2 : ρ (.tmp _) = .agg #[u, .int .i64 a] := f2; have HX := Lib.hid (RdL.of_own (own_up HX0.out hR.of_drew.to_below)); have HU := Lib.hid hu; clear hu; go_simp; refine (eqHistory_same _ _ ms a _ HX.out HU.out).mono ?_; rintro e wc ⟨rfl, hb⟩; exact ⟨_, rfl, hK _ _ ((RS.refl _ _).below hb) trivial rfl⟩
    · intro k' w' ρ hk' hR hM hF
      replace hk' : k' < 5 := hk'
      obtain ⟨f0, -⟩ := hF
      replace f0 : ρ (.tmp 37) = .bool true := f0
      refine good_of fun K hK => ?_
      go_simp
      exact hK _ _ (RS.refl _ _) (trivial) (rfl)
  · intro w' hR hM
    rintro _ rfl
    rintro _ rfl
    rintro _ ⟨_, rfl, -⟩
    rintro _ rfl
    rintro _ rfl
  --END
    dsimp only [EndAll, Act.put]
    obtain ⟨w7, rfl⟩ : ∃ z, z = w' := ⟨_, rfl⟩
    have hB7 : Below w6.heap.size w6 w7 := hR.of_drew.to_below
    have hW := HW.out
    have hx0 := own_up HX0.out hB7
    have hg0 := own_up HG0.out hB7
    have ho0 := own_up HO0.out hB7
    have hb := hB7
    have hB : Below w6.heap.size w6 w7 := (by (repeat (first | exact Below.refl _ _ | assumption | refine Below.drew ?_ | refine up_drewN ?_ _ | refine up_alloc ?_ _ | refine up_set ?_ _ _ (by first | exact Nat.le_refl _ | (simp; done) | (simp; omega) | omega) | refine up_trans ?_ (by assumption)))); replace hc := up_c hB hz hc; replace hf := up_f hB hz hf; replace hz := Nat.lt_of_lt_of_le hz hB.size; replace xc := up_c hB xz xc; replace xf := up_f hB xz xf; replace xz := Nat.lt_of_lt_of_le xz hB.size; have sw7 := hB.size; replace hW := up_trans hW hB; clear hB
    clear hR hM HW hB7 hb HX0 HG0 HO0
    have HO0 := Lib.hid ho0
    have HG0 := Lib.hid hg0
    clear ho0 hg0
    go_wp2_with fail
    refine (markHistory_any _ _ ms.length a _ 1 _ (by omega) (by omega) hs1 (by omega) hx0).mono ?_
    rintro e w9 ⟨rfl, _, hgr⟩
    have ho0 := HO0.out.kept hgr n1.out
    have hg0 := HG0.out.kept hgr (ne_swap n3.out)
    replace hW := up_grown hW hgr (own_lt hx0 (by omega))
    replace hc := gk_c hgr hz xh.out hc
    replace hf := gk_f hgr hz xh.out hf
    replace hz := Nat.lt_of_lt_of_le hz hgr.size
    have sw9 : w7.heap.size ≤ w9.heap.size := hgr.size
    have p1 : ¬ ((1 + 7 * ms.length : Nat) : Int) < 0 := by omega
    have HO0 := Lib.hid ho0
    have HG0 := Lib.hid hg0
    clear hgr hx0 n1 n3 xh xc xf xz xy ho0 hg0
    go_wp2_with fail
    refine (eqStringS_same _ _ rs _ (RdL.of_own HG0.out) (RdL.of_own HO0.out)).mono ?_
    rintro e w10 ⟨rfl, hb⟩
    have ho0 := HO0.out
    have hg0 := HG0.out
    have hB : Below w9.heap.size w9 w10 := (by (repeat (first | exact Below.refl _ _ | assumption | refine Below.drew ?_ | refine up_drewN ?_ _ | refine up_alloc ?_ _ | refine up_set ?_ _ _ (by first | exact Nat.le_refl _ | (simp; done) | (simp; omega) | omega) | refine up_trans ?_ (by assumption)))); replace hc := up_c hB hz hc; replace hf := up_f hB hz hf; replace hz := Nat.lt_of_lt_of_le hz hB.size; replace ho0 := own_up ho0 hB; replace hg0 := own_up hg0 hB; have sw10 := hB.size; replace hW := up_trans hW hB; clear hB
    have HO0 := Lib.hid ho0
    clear hb p1 ho0
    go_wp2_with fail
    refine (markStringS_any _ _ rs.length _ 1 _ (by omega) (by omega) (by omega) hg0).mono ?_
    rintro e w11 ⟨rfl, hg1, hgr⟩
    have ho0 := HO0.out.kept hgr n2.out
    replace hW := up_grown hW hgr (own_lt hg0 (by omega))
    replace hc := gk_c hgr hz gh.out hc
    replace hf := gk_f hgr hz gh.out hf
    replace hz := Nat.lt_of_lt_of_le hz hgr.size
    have sw11 : w10.heap.size ≤ w11.heap.size := hgr.size
    have hq : rs.length = (mkS 1 rs.length).length := (mkS_len _ _).symm
    have HQ := Lib.hid hq
    have HO0 := Lib.hid ho0
    have HG1 := Lib.hid hg1
    clear hgr hg0 n2 hq gh ho0 hg1
    go_wp2_with fail
    refine (heldStringS_any _ rs.length 1 _ (by omega) (by omega) (by omega) (RdL.of_own (by rw [← HQ.out]; exact HG1.out))).mono ?_
    rintro e w12 ⟨rfl, hb⟩
    have ho0 := HO0.out
    have hg1 := HG1.out
    have hB : Below w11.heap.size w11 w12 := (by (repeat (first | exact Below.refl _ _ | assumption | refine Below.drew ?_ | refine up_drewN ?_ _ | refine up_alloc ?_ _ | refine up_set ?_ _ _ (by first | exact Nat.le_refl _ | (simp; done) | (simp; omega) | omega) | refine up_trans ?_ (by assumption)))); replace hc := up_c hB hz hc; replace hf := up_f hB hz hf; replace hz := Nat.lt_of_lt_of_le hz hB.size; replace ho0 := own_up ho0 hB; replace hg1 := own_up hg1 hB; have sw12 := hB.size; replace hW := up_trans hW hB; clear hB
    have HO0 := Lib.hid ho0
    have HG1 := Lib.hid hg1
    clear hb ho0 hg1
    have p1 : ¬ ((1 + rs.length : Nat) : Int) < 0 := by omega
    go_wp2_with fail
    refine (toHistory_any _ ms a _ (H0.out.up hW) hs1).mono ?_
    rintro e w13 ⟨y3, rfl, hy3, hb⟩
    obtain ⟨ZA, ZC, rfl, -, -⟩ := (RdL.of_own (f := moC) (bs := ms) hy3).form
    have R3 := Lib.hid (rdM0_of hy3 HS.out)
    have ho0 := HO0.out
    have hg1 := HG1.out
    have hB : Below w12.heap.size w12 w13 := (by (repeat (first | exact Below.refl _ _ | assumption | refine Below.drew ?_ | refine up_drewN ?_ _ | refine up_alloc ?_ _ | refine up_set ?_ _ _ (by first | exact Nat.le_refl _ | (simp; done) | (simp; omega) | omega) | refine up_trans ?_ (by assumption)))); replace ho0 := own_up ho0 hB; replace hg1 := own_up hg1 hB; have sw13 := hB.size; replace hW := up_trans hW hB; clear hB
    have HO0 := Lib.hid ho0
    have HG1 := Lib.hid hg1
    clear hb ho0 hg1 hy3 hc hf hz
    go_wp2_with fail
    refine (FI.out _ _ R3.out (HLT.out.up hW)).mono ?_
    rintro e w14 ⟨h0, rfl, hh0, hb⟩
    have ho0 := HO0.out
    have hg1 := HG1.out
    have hB : Below w13.heap.size w13 w14 := (by (repeat (first | exact Below.refl _ _ | assumption | refine Below.drew ?_ | refine up_drewN ?_ _ | refine up_alloc ?_ _ | refine up_set ?_ _ _ (by first | exact Nat.le_refl _ | (simp; done) | (simp; omega) | omega) | refine up_trans ?_ (by assumption)))); replace ho0 := own_up ho0 hB; replace hg1 := own_up hg1 hB; have sw14 := hB.size; replace hW := up_trans hW hB; clear hB
    have HG1 := Lib.hid hg1
    have R0 := Lib.hid (RdL.of_own (f := strC) (bs := rs) ho0)
    have RH := Lib.hid (RdL.of_own (f := strC) (bs := rs) hh0)
    clear hb ho0 hg1 hh0 R3
    go_wp2_with fail
    refine (eqStringS_same _ _ rs _ RH.out R0.out).mono ?_
    rintro e w15 ⟨rfl, hb⟩
    have hg1 := HG1.out
    have hB : Below w14.heap.size w14 w15 := (by (repeat (first | exact Below.refl _ _ | assumption | refine Below.drew ?_ | refine up_drewN ?_ _ | refine up_alloc ?_ _ | refine up_set ?_ _ _ (by first | exact Nat.le_refl _ | (simp; done) | (simp; omega) | omega) | refine up_trans ?_ (by assumption)))); replace hg1 := own_up hg1 hB; have sw15 := hB.size; replace hW := up_trans hW hB; clear hB
    have HG1 := Lib.hid hg1
    clear hb hg1
    go_wp2_with fail
    refine (heldStringS_any _ rs.length 1 _ (by omega) (by omega) (by omega) (RdL.of_own (by rw [← HQ.out]; exact HG1.out))).mono ?_
    rintro e w16 ⟨rfl, hb⟩
    have hB : Below w15.heap.size w15 w16 := (by (repeat (first | exact Below.refl _ _ | assumption | refine Below.drew ?_ | refine up_drewN ?_ _ | refine up_alloc ?_ _ | refine up_set ?_ _ _ (by first | exact Nat.le_refl _ | (simp; done) | (simp; omega) | omega) | refine up_trans ?_ (by assumption)))); have sw16 := hB.size; replace hW := up_trans hW hB; clear hB
    clear hb
    go_wp2_with fail
    go_ret
    exact ⟨rfl, hW⟩

end Go.Proofs.YtdngdlcibaiekaaGreatDoor
