/- What is proved here: the walk of the law FnExactEditorRun. Condition: what the library's variables hold. -/
import Derived.Test.YtbjlkdenkmbepaaGreatDoorEr
import Derived.Test.YtbjlkdenkmbepaaGreatDoorXB
import Derived.Test.YtbjlkdenkmbepaaGreatDoorXA
namespace Go.Proofs.YtbjlkdenkmbepaaGreatDoor
open Go.RowKit
set_option linter.unusedVariables false

def tEdY (s : List UInt8) (x : Int) (cl : List UInt8) (ms : List Mo) (pa : Int) : Ty (RS []) := ⟨fun v w => ∃ u, v = edAgg s x cl u pa ∧ RdL w 7 moC u ms, fun _ _ _ hR ⟨u, hv, h⟩ => ⟨u, hv, h.up hR.to_below⟩⟩

set_option maxRecDepth 100000 in
set_option maxHeartbeats 4000000 in
theorem exactEditorRun_walk (v : Value) (E : EdArg) (lv : Value) (rs : List (List UInt8)) (w : World) (h : RdE w v E) (h2 : RdS w lv rs) (hL : LW w) :
    Calls Tryz.prog 5 #[v, lv] w fun e w' => e = .returned (.bool true) ∧ Below w.heap.size w w' := by
  have hW := Below.refl w.heap.size w
  obtain ⟨s, x, cl, pa, ms⟩ := E
  obtain ⟨u0, rfl, h0, hsl, hcl⟩ := h
  simp only at h0 hsl hcl ⊢
  obtain ⟨A, c, rfl, hm, _⟩ := h0.1.form
  obtain ⟨LA, LC, rfl, _, _⟩ := h2.1.form
  unfold edAgg
  have H2 := Lib.hid h2
  have HL := Lib.hid hL
  have Z := Lib.hid (fun (w' : World) (hb : Below w.heap.size w w') => szEditor_any (.slice A ms.length c) ms pa s x cl w' (h0.up hb) hsl hcl)
  have T := Lib.hid (fun (w' : World) (hb : Below w.heap.size w w') => toEditor_any (.slice A ms.length c) ms pa s x cl w' (h0.up hb))
  unfold SzEPost at Z
  unfold ToEPost at T
  unfold edAgg at Z T
  clear h0 hL h2
  go_enter Tryz.func5, Tryz.ntmps5
  go_wp2_with fail
  refine (Z.out _ (by exact bBel)).mono ?_
  rintro e w1 ⟨r, rfl, hr1, hr2, hb⟩
  have hc : ∀ o, w1.cell? ⟨w.heap.size, o, none⟩ = #[S s, .int .i64 x, S cl, .slice A ms.length c, .int .i64 pa][o]? := (fun o => (hb.cell (p := ⟨w.heap.size, o, none⟩) (by simp <;> omega)).trans (by simp [go_sem])); have hf : ∀ o, w1.frozen? ⟨w.heap.size, o, none⟩ = false := (fun o => (hb.frozen (p := ⟨w.heap.size, o, none⟩) (by simp <;> omega)).trans (by simp [go_sem])); have hz : w.heap.size < w1.heap.size := (by have := hb.size; (try simp at this); omega); have hy := hz
  have hB : Below w.heap.size w w1 := (by exact bBel); have sw1 := hB.size; replace hW := up_trans hW hB; clear hB
  clear hb
  by_cases hr0 : r < 0
  · clear hr2
    go_wp2_with fail
    go_ret
    exact ⟨rfl, hW⟩
  have hsm := (hr2 (by omega)).1
  have hs1 := hsm.1
  have HS := Lib.hid hsm
  have hr3 : 0 ≤ r := by omega
  have SZ := Lib.hid (fun (w' : World) (hb : Below w.heap.size w w') => szStringS_any (.slice LA rs.length LC) rs r w' (H2.out.up hb) hr3 hr1)
  unfold SzSPost at SZ
  clear hr2 hsm Z
  go_wp2_with fail
  refine (SZ.out _ hW).mono ?_
  rintro e w2 ⟨z, rfl, rfl, _, hz⟩
  by_cases hz0 : z < 0
  · go_wp2_with fail
    go_ret
    exact ⟨rfl, hW⟩
  obtain ⟨hrn, hrs⟩ := hz (by omega)
  have TS := Lib.hid (fun w hw => toStringS_any (.slice LA rs.length LC) rs w hw hrn)
  unfold ToSPost at TS
  clear hz SZ hr0 hr1 hr3
  obtain ⟨XX, N, hF, hC⟩ := run_facts ⟨s, x, cl, ms, pa⟩ rs hsl hcl hs1 hrs
  have hm2 := run_small hC
  obtain ⟨s2, x2, cl2, m2, pa2⟩ := XX
  replace hm2 : m2.length ≤ 1048576 := by have := hm2.1; simp only at this; omega
  have FI := Lib.hid hF.1
  have FS := Lib.hid hF.2
  unfold ErPost edW edAgg at FI FS
  simp only at FI FS
  have Q := Lib.hid (fun (u v : Value) (w' : World) (hu : RdL w' 7 moC u ms) (hv : RdL w' 7 moC v ms) => eqEditor_same u v ms pa s x cl w' hu hv)
  have Q2 := Lib.hid (fun (u v : Value) (w' : World) (hu : RdL w' 7 moC u m2) (hv : RdL w' 7 moC v m2) => eqEditor_same u v m2 pa2 s2 x2 cl2 w' hu hv)
  have MK1 := Lib.hid (fun (base : Nat) (v : Value) (w' : World) hbw ho => markEditor_any base v ms.length pa s x cl (ms.flatMap moC) 1 w' (by omega) (by omega) hs1 hbw ho)
  have MK2 := Lib.hid (fun (base : Nat) (v : Value) (w' : World) hbw ho => markEditor_any base v m2.length pa2 s2 x2 cl2 (m2.flatMap moC) 1 w' (by omega) (by omega) hm2 hbw ho)
  have HD2 := Lib.hid (fun (v : Value) (w' : World) hu => heldEditor_any v m2.length pa2 s2 x2 cl2 1 w' (by omega) (by omega) hm2 hu)
  unfold edAgg at Q Q2 MK1 MK2 HD2
  have EQS := Lib.hid (fun (u v : Value) (w' : World) hu hv => eqStringS_same u v rs w' hu hv)
  have MKS := Lib.hid (fun (base : Nat) (v : Value) (w' : World) ho => markStringS_any base v rs.length (rs.flatMap strC) (1 + 7 * ms.length) w' (by omega) (by omega) hrn ho)
  have HW := Lib.hid hW
  clear hF hC hW hsl hcl hrs
  go_wp2_with fail
  clear hz0
  refine (T.out _ HW.out hs1).mono ?_
  rintro e w2 ⟨y1, rfl, hy1, hb⟩
  have R1 := Lib.hid (rdM0_of hy1 HS.out)
  obtain ⟨YA, YC, rfl, -, -⟩ := (RdL.of_own (f := moC) (bs := ms) hy1).form
  have hW := HW.out
  have hB : Below w1.heap.size w1 w2 := (by exact bBel); replace hc := up_c hB hz hc; replace hf := up_f hB hz hf; replace hz := Nat.lt_of_lt_of_le hz hB.size; have sw2 := hB.size; replace hW := up_trans hW hB; clear hB
  have HW := Lib.hid hW
  clear hb hy1 hW
  go_wp2_with fail
  refine (TS.out _ (H2.out.up HW.out)).mono ?_
  rintro e wa ⟨l1, rfl, hl1, hb⟩
  have RL1 := Lib.hid (RdL.of_own (f := strC) (bs := rs) hl1)
  have R1 := Lib.hid (R1.out.up hb)
  have hW := HW.out
  have hB : Below w2.heap.size w2 wa := (by exact bBel); replace hc := up_c hB hz hc; replace hf := up_f hB hz hf; replace hz := Nat.lt_of_lt_of_le hz hB.size; have swa := hB.size; replace hW := up_trans hW hB; clear hB
  have HW := Lib.hid hW
  clear hb hl1 hW
  go_wp2_with fail
  refine (FS.out _ _ _ R1.out RL1.out).mono ?_
  rintro e w3 ⟨u3, rfl, hd0, hb⟩
  obtain ⟨DA, DC, rfl, -, -⟩ := (RdL.of_own (f := moC) (bs := m2) hd0).form
  have hW := HW.out
  have hB : Below wa.heap.size wa w3 := (by exact bBel); replace hc := up_c hB hz hc; replace hf := up_f hB hz hf; replace hz := Nat.lt_of_lt_of_le hz hB.size; have sw3 := hB.size; replace hW := up_trans hW hB; clear hB
  clear hb R1 RL1 FS
  go_upto_region 9 with (fail)
  obtain ⟨w4, hw⟩ : ∃ z, z = w3.alloc (.cells #[S s2, .int .i64 x2, S cl2, .slice DA m2.length DC, .int .i64 pa2] 27) := ⟨_, rfl⟩
  rw [← hw]
  have hb : Below w3.heap.size w3 w4 := by rw [hw]; exact up_alloc (Below.refl _ _) _
  have dI : Is w4 w3.heap.size #[S s2, .int .i64 x2, S cl2, .slice DA m2.length DC, .int .i64 pa2] := by rw [hw]; exact new_is w3 _ _
  have dz : w3.heap.size < w4.heap.size := by rw [hw]; simp
  have dc := dI.1
  have df := dI.2
  obtain ⟨db, hdb⟩ : ∃ z, z = w3.heap.size := ⟨_, rfl⟩
  rw [← hdb] at dc df dz ⊢
  have dblo : w3.heap.size ≤ db := by omega
  clear hdb
  have hB : Below w3.heap.size w3 w4 := (by exact bBel); replace hc := up_c hB hz hc; replace hf := up_f hB hz hf; replace hz := Nat.lt_of_lt_of_le hz hB.size; replace hd0 := own_up hd0 hB; have sw4 := hB.size; replace hW := up_trans hW hB; clear hB
  have HW := Lib.hid hW
  clear hb hw dI hW
  go_wp2_with fail
  refine (T.out _ HW.out hs1).mono ?_
  rintro e w5 ⟨x0, rfl, hx0, hb⟩
  have n1 := Lib.hid (own_ne hd0 hx0 (Nat.le_refl _))
  have xd := Lib.hid (ho_ne hx0 dz)
  have xh := Lib.hid (ho_ne hx0 hz)
  have xx := Lib.hid (fun y (hy : w5.heap.size ≤ y) => ho_gt hx0 hy)
  obtain ⟨XA, XC, rfl, -, -⟩ := (RdL.of_own (f := moC) (bs := ms) hx0).form
  have hW := HW.out
  have hB : Below w4.heap.size w4 w5 := (by exact bBel); replace hc := up_c hB hz hc; replace hf := up_f hB hz hf; replace hz := Nat.lt_of_lt_of_le hz hB.size; replace dc := up_c hB dz dc; replace df := up_f hB dz df; replace dz := Nat.lt_of_lt_of_le dz hB.size; replace hd0 := own_up hd0 hB; have sw5 := hB.size; replace hW := up_trans hW hB; clear hB
  clear hb
  go_upto_region 10 with (fail)
  obtain ⟨w6, hw⟩ : ∃ z, z = w5.alloc (.cells #[S s, .int .i64 x, S cl, .slice XA ms.length XC, .int .i64 pa] 27) := ⟨_, rfl⟩
  rw [← hw]
  have hb : Below w5.heap.size w5 w6 := by rw [hw]; exact up_alloc (Below.refl _ _) _
  have xI : Is w6 w5.heap.size #[S s, .int .i64 x, S cl, .slice XA ms.length XC, .int .i64 pa] := by rw [hw]; exact new_is w5 _ _
  have xz : w5.heap.size < w6.heap.size := by rw [hw]; simp
  have xc := xI.1
  have xf := xI.2
  obtain ⟨xb, hxb⟩ : ∃ z, z = w5.heap.size := ⟨_, rfl⟩
  rw [← hxb] at xc xf xz ⊢
  have xblo : w5.heap.size ≤ xb := by omega
  clear hxb
  have hB : Below w5.heap.size w5 w6 := (by exact bBel); replace hc := up_c hB hz hc; replace hf := up_f hB hz hf; replace hz := Nat.lt_of_lt_of_le hz hB.size; replace dc := up_c hB dz dc; replace df := up_f hB dz df; replace dz := Nat.lt_of_lt_of_le dz hB.size; replace hd0 := own_up hd0 hB; replace hx0 := own_up hx0 hB; have sw6 := hB.size; replace hW := up_trans hW hB; clear hB
  have HW := Lib.hid hW
  have RX6 := Lib.hid (rdM0_of hx0 HS.out)
  have HD0 := Lib.hid hd0
  have HX0 := Lib.hid hx0
  clear hb hw xI hW hd0 hx0
  go_wp2_with fail
  refine (TS.out _ (H2.out.up HW.out)).mono ?_
  rintro e wb ⟨qv, rfl, hq0, hb⟩
  have n4 := Lib.hid (own_ne HD0.out hq0 (Nat.le_refl _))
  have n6 := Lib.hid (own_ne HX0.out hq0 (Nat.le_refl _))
  have qd := Lib.hid (ho_ne hq0 dz)
  have qh := Lib.hid (ho_ne hq0 hz)
  have qg := Lib.hid (fun y (hy : wb.heap.size ≤ y) => ho_gt hq0 hy)
  obtain ⟨QA, QC, rfl, -, -⟩ := (RdL.of_own (f := strC) (bs := rs) hq0).form
  have hd0 := HD0.out
  have hx0 := HX0.out
  have hW := HW.out
  have RX6 := Lib.hid (RX6.out.up hb)
  have hB : Below w6.heap.size w6 wb := (by exact bBel); replace hc := up_c hB hz hc; replace hf := up_f hB hz hf; replace hz := Nat.lt_of_lt_of_le hz hB.size; replace dc := up_c hB dz dc; replace df := up_f hB dz df; replace dz := Nat.lt_of_lt_of_le dz hB.size; replace xc := up_c hB xz xc; replace xf := up_f hB xz xf; replace xz := Nat.lt_of_lt_of_le xz hB.size; replace hd0 := own_up hd0 hB; replace hx0 := own_up hx0 hB; have swb := hB.size; replace hW := up_trans hW hB; clear hB
  have HD0 := Lib.hid hd0
  have HX0 := Lib.hid hx0
  have HQ0 := Lib.hid hq0
  have HW := Lib.hid hW
  clear hb hW hd0 hx0 hq0
  go_wp2_with fail
  refine (FI.out _ _ _ RX6.out (RdL.of_own HQ0.out) (HL.out.up HW.out)).mono ?_
  rintro e w7 ⟨u7, rfl, hg0, hb⟩
  have hd0 := HD0.out
  have hx0 := HX0.out
  have hq0 := HQ0.out
  have n5 := Lib.hid (own_ne hq0 hg0 (Nat.le_refl _))
  have n2 := Lib.hid (own_ne hd0 hg0 (Nat.le_refl _))
  have n3 := Lib.hid (own_ne hx0 hg0 (Nat.le_refl _))
  have gd := Lib.hid (ho_ne hg0 dz)
  have gh := Lib.hid (ho_ne hg0 hz)
  have gx := Lib.hid (ho_ne hg0 xz)
  have gg := Lib.hid (fun y (hy : w7.heap.size ≤ y) => ho_gt hg0 hy)
  obtain ⟨GA, GC, rfl, -, -⟩ := (RdL.of_own (f := moC) (bs := m2) hg0).form
  have hW := HW.out
  have hB : Below wb.heap.size wb w7 := (by exact bBel); replace hc := up_c hB hz hc; replace hf := up_f hB hz hf; replace hz := Nat.lt_of_lt_of_le hz hB.size; replace dc := up_c hB dz dc; replace df := up_f hB dz df; replace dz := Nat.lt_of_lt_of_le dz hB.size; replace xc := up_c hB xz xc; replace xf := up_f hB xz xf; replace xz := Nat.lt_of_lt_of_le xz hB.size; replace hd0 := own_up hd0 hB; replace hx0 := own_up hx0 hB; replace hq0 := own_up hq0 hB; have sw7 := hB.size; replace hW := up_trans hW hB; clear hB
  clear hb RX6 HD0 HX0 HQ0 HW
  go_upto_region 12 with (fail)
  obtain ⟨w8, hw⟩ : ∃ z, z = w7.alloc (.cells #[S s2, .int .i64 x2, S cl2, .slice GA m2.length GC, .int .i64 pa2] 27) := ⟨_, rfl⟩
  rw [← hw]
  have hb : Below w7.heap.size w7 w8 := by rw [hw]; exact up_alloc (Below.refl _ _) _
  have gI : Is w8 w7.heap.size #[S s2, .int .i64 x2, S cl2, .slice GA m2.length GC, .int .i64 pa2] := by rw [hw]; exact new_is w7 _ _
  have gz : w7.heap.size < w8.heap.size := by rw [hw]; simp
  have gc := gI.1
  have gf := gI.2
  obtain ⟨gb, hgb⟩ : ∃ z, z = w7.heap.size := ⟨_, rfl⟩
  rw [← hgb] at gc gf gz ⊢
  have gblo : w7.heap.size ≤ gb := by omega
  clear hgb
  have hB : Below w7.heap.size w7 w8 := (by exact bBel); replace hc := up_c hB hz hc; replace hf := up_f hB hz hf; replace hz := Nat.lt_of_lt_of_le hz hB.size; replace dc := up_c hB dz dc; replace df := up_f hB dz df; replace dz := Nat.lt_of_lt_of_le dz hB.size; replace xc := up_c hB xz xc; replace xf := up_f hB xz xf; replace xz := Nat.lt_of_lt_of_le xz hB.size; replace hd0 := own_up hd0 hB; replace hx0 := own_up hx0 hB; replace hg0 := own_up hg0 hB; replace hq0 := own_up hq0 hB; have sw8 := hB.size; replace hW := up_trans hW hB; clear hB
  have HD0 := Lib.hid hd0
  have HX0 := Lib.hid hx0
  have HG0 := Lib.hid hg0
  have HW := Lib.hid hW
  have HQ0 := Lib.hid hq0
  clear hb hw gI hW hd0 hx0 hg0 hq0
  go_wp2_with fail
  refine (Q2.out _ _ _ (RdL.of_own HG0.out) (RdL.of_own HD0.out)).mono ?_
  rintro e w9 ⟨rfl, hb⟩
  have hd0 := HD0.out
  have hx0 := HX0.out
  have hg0 := HG0.out
  have hW := HW.out
  have hq0 := HQ0.out
  have hB : Below w8.heap.size w8 w9 := (by exact bBel); replace hc := up_c hB hz hc; replace hf := up_f hB hz hf; replace hz := Nat.lt_of_lt_of_le hz hB.size; replace dc := up_c hB dz dc; replace df := up_f hB dz df; replace dz := Nat.lt_of_lt_of_le dz hB.size; replace xc := up_c hB xz xc; replace xf := up_f hB xz xf; replace xz := Nat.lt_of_lt_of_le xz hB.size; replace gc := up_c hB gz gc; replace gf := up_f hB gz gf; replace gz := Nat.lt_of_lt_of_le gz hB.size; replace hd0 := own_up hd0 hB; replace hx0 := own_up hx0 hB; replace hg0 := own_up hg0 hB; replace hq0 := own_up hq0 hB; have sw9 := hB.size; replace hW := up_trans hW hB; clear hB
  have HD0 := Lib.hid hd0
  have HX0 := Lib.hid hx0
  have HG0 := Lib.hid hg0
  have HQ0 := Lib.hid hq0
  have HW := Lib.hid hW
  clear hb hW hd0 hx0 hg0 hq0
  go_upto_region 14 with (fail)
  --EVER{laws.FnExactEditorRun;14;xr14}
  refine wp_region_ever (R := RS []) (M := fun _ _ => True) [tEq _ (.agg #[S s, .int .i64 x, S cl, .slice XA ms.length XC, .int .i64 pa]), tEq _ (.agg #[S s, .int .i64 x, S cl, .slice A ms.length c, .int .i64 pa]), tEdY s x cl ms pa, tEq _ (.bool true), tEq _ (.bool false)] (by kernel_rfl) (RS.refl _) (fun _ _ _ => RS.trans) (by kernel_rfl) (trivial) ?_ ?_
  · refine ⟨?_, ?_, ?_, ?_, ?_, trivial⟩
    · intro k' w' ρ hk' hR hM hF
      replace hk' : k' < 5 := hk'
      obtain ⟨f0, -⟩ := hF
      replace f0 : ρ (.tmp 8) = .pointer (some ⟨xb, 0, none⟩) := f0
      refine good_of fun K hK => ?_
      have z0 := (hR.of_drew.cell xz (by simp) 0).trans (xc 0); have z1 := (hR.of_drew.cell xz (by simp) 1).trans (xc 1); have z2 := (hR.of_drew.cell xz (by simp) 2).trans (xc 2); have z3 := (hR.of_drew.cell xz (by simp) 3).trans (xc 3); have z4 := (hR.of_drew.cell xz (by simp) 4).trans (xc 4); go_simp; exact hK _ _ (RS.refl _ _) (trivial) rfl
    · intro k' w' ρ hk' hR hM hF
      replace hk' : k' < 5 := hk'
      obtain ⟨f0, -⟩ := hF
      replace f0 : ρ (.tmp 2) = .pointer (some ⟨w.heap.size, 0, none⟩) := f0
      refine good_of fun K hK => ?_
      have z0 := (hR.of_drew.cell hz (by simp) 0).trans (hc 0); have z1 := (hR.of_drew.cell hz (by simp) 1).trans (hc 1); have z2 := (hR.of_drew.cell hz (by simp) 2).trans (hc 2); have z3 := (hR.of_drew.cell hz (by simp) 3).trans (hc 3); have z4 := (hR.of_drew.cell hz (by simp) 4).trans (hc 4); go_simp; exact hK _ _ (RS.refl _ _) (trivial) rfl
    · intro k' w' ρ hk' hR hM hF
      replace hk' : k' < 5 := hk'
      obtain ⟨f0, f1, -⟩ := hF
      replace f0 : ρ (.func _) = .func (.func _) #[] #[] := f0
      replace f1 : ρ (.tmp 55) = .agg #[S s, .int .i64 x, S cl, .slice A ms.length c, .int .i64 pa] := f1
      refine good_of fun K hK => ?_
      go_simp; refine (T.out _ (up_trans HW.out hR.of_drew.to_below) hs1).mono ?_; rintro e wc ⟨u, rfl, ho, hb⟩; exact ⟨_, rfl, hK _ _ ((RS.refl _ _).below hb) trivial ⟨u, rfl, RdL.of_own ho⟩⟩
    · intro k' w' ρ hk' hR hM hF
      replace hk' : k' < 5 := hk'
      obtain ⟨f0, f1, f2, -⟩ := hF
      replace f0 : ρ (.func _) = .func (.func _) #[] #[] := f0
      replace f1 : ρ (.tmp 54) = .agg #[S s, .int .i64 x, S cl, .slice XA ms.length XC, .int .i64 pa] := f1
      refine good_of fun K hK => ?_
      obtain ⟨u, f2, hu⟩ := f2; replace f2 : ρ (.tmp _) = .agg #[S s, .int .i64 x, S cl, u, .int .i64 pa] := f2; have HX := Lib.hid (RdL.of_own (f := moC) (bs := ms) (own_up HX0.out hR.of_drew.to_below)); have HU := Lib.hid hu; clear hu; go_simp; refine (Q.out _ _ _ HX.out HU.out).mono ?_; rintro e wc ⟨rfl, hb⟩; exact ⟨_, rfl, hK _ _ ((RS.refl _ _).below hb) trivial rfl⟩
    · intro k' w' ρ hk' hR hM hF
      replace hk' : k' < 5 := hk'
      obtain ⟨f0, -⟩ := hF
      replace f0 : ρ (.tmp 57) = .bool true := f0
      refine good_of fun K hK => ?_
      go_simp
      exact hK _ _ (RS.refl _ _) (trivial) (rfl)
  · intro w' hR hM
    rintro _ rfl
    rintro _ rfl
    rintro _ ⟨_, rfl, -⟩
    rintro _ rfl
    rintro _ rfl
  --END
  --END
    dsimp only [EndAll, Act.put]
    obtain ⟨w10, rfl⟩ : ∃ z, z = w' := ⟨_, rfl⟩
    have hb : Below w9.heap.size w9 w10 := hR.of_drew.to_below
    have hd0 := HD0.out
    have hx0 := HX0.out
    have hg0 := HG0.out
    have hW := HW.out
    have hq0 := HQ0.out
    have hB : Below w9.heap.size w9 w10 := (by exact bBel); replace hc := up_c hB hz hc; replace hf := up_f hB hz hf; replace hz := Nat.lt_of_lt_of_le hz hB.size; replace dc := up_c hB dz dc; replace df := up_f hB dz df; replace dz := Nat.lt_of_lt_of_le dz hB.size; replace xc := up_c hB xz xc; replace xf := up_f hB xz xf; replace xz := Nat.lt_of_lt_of_le xz hB.size; replace gc := up_c hB gz gc; replace gf := up_f hB gz gf; replace gz := Nat.lt_of_lt_of_le gz hB.size; replace hd0 := own_up hd0 hB; replace hx0 := own_up hx0 hB; replace hg0 := own_up hg0 hB; replace hq0 := own_up hq0 hB; have sw10 := hB.size; replace hW := up_trans hW hB; clear hB
    have HD0 := Lib.hid hd0
    have HG0 := Lib.hid hg0
    have HX0 := Lib.hid hx0
    have HQ0 := Lib.hid hq0
    have HW := Lib.hid hW
    clear hR hM hb hd0 hg0 hx0 hq0 hW
    go_wp2_with fail
    refine (TS.out _ (H2.out.up HW.out)).mono ?_
    rintro e wc ⟨l2, rfl, hl2, hb⟩
    have RL2 := Lib.hid (RdL.of_own (f := strC) (bs := rs) hl2)
    have hd0 := HD0.out
    have hx0 := HX0.out
    have hg0 := HG0.out
    have hW := HW.out
    have hq0 := HQ0.out
    have hB : Below w10.heap.size w10 wc := (by exact bBel); replace hc := up_c hB hz hc; replace hf := up_f hB hz hf; replace hz := Nat.lt_of_lt_of_le hz hB.size; replace dc := up_c hB dz dc; replace df := up_f hB dz df; replace dz := Nat.lt_of_lt_of_le dz hB.size; replace xc := up_c hB xz xc; replace xf := up_f hB xz xf; replace xz := Nat.lt_of_lt_of_le xz hB.size; replace gc := up_c hB gz gc; replace gf := up_f hB gz gf; replace gz := Nat.lt_of_lt_of_le gz hB.size; replace hd0 := own_up hd0 hB; replace hx0 := own_up hx0 hB; replace hg0 := own_up hg0 hB; replace hq0 := own_up hq0 hB; have swc := hB.size; replace hW := up_trans hW hB; clear hB
    have HD0 := Lib.hid hd0
    have HG0 := Lib.hid hg0
    have HX0 := Lib.hid hx0
    have HQ0 := Lib.hid hq0
    have HW := Lib.hid hW
    clear hb hd0 hg0 hx0 hq0 hW hl2
    go_wp2_with fail
    refine (EQS.out _ _ _ (RdL.of_own HQ0.out) RL2.out).mono ?_
    rintro e wd ⟨rfl, hb⟩
    have hd0 := HD0.out
    have hx0 := HX0.out
    have hg0 := HG0.out
    have hW := HW.out
    have hq0 := HQ0.out
    have hB : Below wc.heap.size wc wd := (by exact bBel); replace hc := up_c hB hz hc; replace hf := up_f hB hz hf; replace hz := Nat.lt_of_lt_of_le hz hB.size; replace dc := up_c hB dz dc; replace df := up_f hB dz df; replace dz := Nat.lt_of_lt_of_le dz hB.size; replace xc := up_c hB xz xc; replace xf := up_f hB xz xf; replace xz := Nat.lt_of_lt_of_le xz hB.size; replace gc := up_c hB gz gc; replace gf := up_f hB gz gf; replace gz := Nat.lt_of_lt_of_le gz hB.size; replace hd0 := own_up hd0 hB; replace hx0 := own_up hx0 hB; replace hg0 := own_up hg0 hB; replace hq0 := own_up hq0 hB; have swd := hB.size; replace hW := up_trans hW hB; clear hB
    have HD0 := Lib.hid hd0
    have HG0 := Lib.hid hg0
    have HQ0 := Lib.hid hq0
    clear hb HX0 HW hd0 hg0 hq0 RL2
    have hx0 := own_base hx0 (show w.heap.size ≤ _ by omega)
    go_wp2_with fail
    refine (MK1.out w.heap.size _ _ (by omega) hx0).mono ?_
    rintro e w11 ⟨rfl, _, hgr⟩
    have hd0 := HD0.out.kept hgr n1.out
    have hg0 := HG0.out.kept hgr (ne_swap n3.out)
    replace hW := up_grown hW hgr (own_lt hx0 (Nat.le_refl _))
    replace hc := gk_c hgr hz xh.out hc
    replace hf := gk_f hgr hz xh.out hf
    replace hz := Nat.lt_of_lt_of_le hz hgr.size
    replace dc := gk_c hgr dz xd.out dc
    replace df := gk_f hgr dz xd.out df
    replace dz := Nat.lt_of_lt_of_le dz hgr.size
    replace gc := gk_c hgr gz (xx.out _ (by omega)) gc
    replace gf := gk_f hgr gz (xx.out _ (by omega)) gf
    replace gz := Nat.lt_of_lt_of_le gz hgr.size
    have sw11 : wd.heap.size ≤ w11.heap.size := hgr.size
    have hq0 := HQ0.out.kept hgr (ne_swap n6.out)
    have HD0 := Lib.hid hd0
    have HG0 := Lib.hid hg0
    have HW := Lib.hid hW
    have hq0 := own_base hq0 (show w.heap.size ≤ _ by omega)
    clear hgr hx0 n1 n3 n6 xd xh xx gx xc xf xz hd0 hg0 hW MK1 HQ0
    go_wp2_with fail
    refine (MKS.out w.heap.size _ _ hq0).mono ?_
    rintro e w21 ⟨rfl, _, hgr⟩
    have hd0 := HD0.out.kept hgr n4.out
    have hg0 := HG0.out.kept hgr (ne_swap n5.out)
    have hW := up_grown HW.out hgr (own_lt hq0 (Nat.le_refl _))
    replace hc := gk_c hgr hz qh.out hc
    replace hf := gk_f hgr hz qh.out hf
    replace hz := Nat.lt_of_lt_of_le hz hgr.size
    replace dc := gk_c hgr dz qd.out dc
    replace df := gk_f hgr dz qd.out df
    replace dz := Nat.lt_of_lt_of_le dz hgr.size
    replace gc := gk_c hgr gz (qg.out _ (by omega)) gc
    replace gf := gk_f hgr gz (qg.out _ (by omega)) gf
    replace gz := Nat.lt_of_lt_of_le gz hgr.size
    have sw21 : w11.heap.size ≤ w21.heap.size := hgr.size
    have p1 : ¬ ((1 + 7 * ms.length + rs.length : Nat) : Int) < 0 := by omega
    have HD0 := Lib.hid hd0
    have HG0 := Lib.hid hg0
    have HW := Lib.hid hW
    clear hgr hq0 n4 n5 qd qh qg hd0 hg0 hW MKS
    go_wp2_with fail
    refine (Q2.out _ _ _ (RdL.of_own HG0.out) (RdL.of_own HD0.out)).mono ?_
    rintro e w12 ⟨rfl, hb⟩
    have hd0 := HD0.out
    have hg0 := HG0.out
    have hW := HW.out
    have hB : Below w21.heap.size w21 w12 := (by exact bBel); replace hc := up_c hB hz hc; replace hf := up_f hB hz hf; replace hz := Nat.lt_of_lt_of_le hz hB.size; replace dc := up_c hB dz dc; replace df := up_f hB dz df; replace dz := Nat.lt_of_lt_of_le dz hB.size; replace gc := up_c hB gz gc; replace gf := up_f hB gz gf; replace gz := Nat.lt_of_lt_of_le gz hB.size; replace hd0 := own_up hd0 hB; replace hg0 := own_up hg0 hB; have sw12 := hB.size; replace hW := up_trans hW hB; clear hB
    have HD0 := Lib.hid hd0
    have hg0 := own_base hg0 (show w.heap.size ≤ _ by omega)
    clear hb p1 hd0 HW
    go_wp2_with fail
    refine (MK2.out w.heap.size _ _ (by omega) hg0).mono ?_
    rintro e w13 ⟨rfl, hg1, hgr⟩
    have hd0 := HD0.out.kept hgr n2.out
    replace hW := up_grown hW hgr (own_lt hg0 (Nat.le_refl _))
    replace hc := gk_c hgr hz gh.out hc
    replace hf := gk_f hgr hz gh.out hf
    replace hz := Nat.lt_of_lt_of_le hz hgr.size
    replace dc := gk_c hgr dz gd.out dc
    replace df := gk_f hgr dz gd.out df
    replace dz := Nat.lt_of_lt_of_le dz hgr.size
    replace gc := gk_c hgr gz (gg.out _ (by omega)) gc
    replace gf := gk_f hgr gz (gg.out _ (by omega)) gf
    replace gz := Nat.lt_of_lt_of_le gz hgr.size
    have sw13 : w12.heap.size ≤ w13.heap.size := hgr.size
    have hq : m2.length = (mkM 1 m2.length).length := (mkM_len _ _).symm
    have HQ := Lib.hid hq
    have HD0 := Lib.hid hd0
    have HG1 := Lib.hid hg1
    have HW := Lib.hid hW
    clear hgr hg0 n2 hq gh gd gg hd0 hg1 hW MK2
    go_wp2_with fail
    refine (HD2.out _ _ (RdL.of_own (by rw [← HQ.out]; exact HG1.out))).mono ?_
    rintro e w14 ⟨rfl, hb⟩
    have hd0 := HD0.out
    have hg1 := HG1.out
    have hW := HW.out
    have hB : Below w13.heap.size w13 w14 := (by exact bBel); replace hc := up_c hB hz hc; replace hf := up_f hB hz hf; replace hz := Nat.lt_of_lt_of_le hz hB.size; replace dc := up_c hB dz dc; replace df := up_f hB dz df; replace dz := Nat.lt_of_lt_of_le dz hB.size; replace gc := up_c hB gz gc; replace gf := up_f hB gz gf; replace gz := Nat.lt_of_lt_of_le gz hB.size; replace hd0 := own_up hd0 hB; replace hg1 := own_up hg1 hB; have sw14 := hB.size; replace hW := up_trans hW hB; clear hB
    have HD0 := Lib.hid hd0
    have HG1 := Lib.hid hg1
    have HW := Lib.hid hW
    clear hb hd0 hg1 hW
    have p1 : ¬ ((1 + 7 * m2.length : Nat) : Int) < 0 := by omega
    go_wp2_with fail
    refine (T.out _ HW.out hs1).mono ?_
    rintro e w15 ⟨y2, rfl, hy1, hb⟩
    have R1 := Lib.hid (rdM0_of hy1 HS.out)
    obtain ⟨YA2, YC2, rfl, -, -⟩ := (RdL.of_own (f := moC) (bs := ms) hy1).form
    have hd0 := HD0.out
    have hg1 := HG1.out
    have hW := HW.out
    have hB : Below w14.heap.size w14 w15 := (by exact bBel); replace dc := up_c hB dz dc; replace df := up_f hB dz df; replace dz := Nat.lt_of_lt_of_le dz hB.size; replace gc := up_c hB gz gc; replace gf := up_f hB gz gf; replace gz := Nat.lt_of_lt_of_le gz hB.size; replace hd0 := own_up hd0 hB; replace hg1 := own_up hg1 hB; have sw15 := hB.size; replace hW := up_trans hW hB; clear hB
    have HD0 := Lib.hid hd0
    have HG1 := Lib.hid hg1
    have HW := Lib.hid hW
    clear hb hy1 hW hd0 hg1 T hc hf hz
    go_wp2_with fail
    refine (TS.out _ (H2.out.up HW.out)).mono ?_
    rintro e we ⟨l3, rfl, hl3, hb⟩
    have RL3 := Lib.hid (RdL.of_own (f := strC) (bs := rs) hl3)
    have R1 := Lib.hid (R1.out.up hb)
    have hd0 := HD0.out
    have hg1 := HG1.out
    have hW := HW.out
    have hB : Below w15.heap.size w15 we := (by exact bBel); replace dc := up_c hB dz dc; replace df := up_f hB dz df; replace dz := Nat.lt_of_lt_of_le dz hB.size; replace gc := up_c hB gz gc; replace gf := up_f hB gz gf; replace gz := Nat.lt_of_lt_of_le gz hB.size; replace hd0 := own_up hd0 hB; replace hg1 := own_up hg1 hB; have swe := hB.size; replace hW := up_trans hW hB; clear hB
    have HD0 := Lib.hid hd0
    have HG1 := Lib.hid hg1
    have HW := Lib.hid hW
    clear hb hl3 hW hd0 hg1
    go_wp2_with fail
    refine (FI.out _ _ _ R1.out RL3.out (HL.out.up HW.out)).mono ?_
    rintro e w16 ⟨u16, rfl, hh0, hb⟩
    obtain ⟨KA, KC, rfl, -, -⟩ := (RdL.of_own (f := moC) (bs := m2) hh0).form
    have hd0 := HD0.out
    have hg1 := HG1.out
    have hW := HW.out
    have hB : Below we.heap.size we w16 := (by exact bBel); replace dc := up_c hB dz dc; replace df := up_f hB dz df; replace dz := Nat.lt_of_lt_of_le dz hB.size; replace gc := up_c hB gz gc; replace gf := up_f hB gz gf; replace gz := Nat.lt_of_lt_of_le gz hB.size; replace hd0 := own_up hd0 hB; replace hg1 := own_up hg1 hB; have sw16 := hB.size; replace hW := up_trans hW hB; clear hB
    clear hb R1 RL3 FI
    go_upto_region 32 with (fail)
    obtain ⟨w17, hw⟩ : ∃ z, z = w16.alloc (.cells #[S s2, .int .i64 x2, S cl2, .slice KA m2.length KC, .int .i64 pa2] 27) := ⟨_, rfl⟩
    rw [← hw]
    have hb : Below w16.heap.size w16 w17 := by rw [hw]; exact up_alloc (Below.refl _ _) _
    have kI : Is w17 w16.heap.size #[S s2, .int .i64 x2, S cl2, .slice KA m2.length KC, .int .i64 pa2] := by rw [hw]; exact new_is w16 _ _
    have kc := kI.1
    obtain ⟨kb, hkb⟩ : ∃ z, z = w16.heap.size := ⟨_, rfl⟩
    rw [← hkb] at kc ⊢
    have kblo : w16.heap.size ≤ kb := by omega
    clear hkb
    have hB : Below w16.heap.size w16 w17 := (by exact bBel); replace dc := up_c hB dz dc; replace df := up_f hB dz df; replace dz := Nat.lt_of_lt_of_le dz hB.size; replace gc := up_c hB gz gc; replace gf := up_f hB gz gf; replace gz := Nat.lt_of_lt_of_le gz hB.size; replace hd0 := own_up hd0 hB; replace hg1 := own_up hg1 hB; replace hh0 := own_up hh0 hB; have sw17 := hB.size; replace hW := up_trans hW hB; clear hB
    have HD0 := Lib.hid hd0
    have HG1 := Lib.hid hg1
    have HH0 := Lib.hid hh0
    have HW := Lib.hid hW
    clear hb hw kI hW hd0 hg1 hh0
    go_wp2_with fail
    refine (Q2.out _ _ _ (RdL.of_own HH0.out) (RdL.of_own HD0.out)).mono ?_
    rintro e w18 ⟨rfl, hb⟩
    have hg1 := HG1.out
    have hW := HW.out
    have hB : Below w17.heap.size w17 w18 := (by exact bBel); replace gc := up_c hB gz gc; replace gf := up_f hB gz gf; replace gz := Nat.lt_of_lt_of_le gz hB.size; replace hg1 := own_up hg1 hB; have sw18 := hB.size; replace hW := up_trans hW hB; clear hB
    have HG1 := Lib.hid hg1
    have HW := Lib.hid hW
    clear hb hg1 hW HD0 HH0 kc dc df dz
    go_wp2_with fail
    refine (HD2.out _ _ (RdL.of_own (by rw [← HQ.out]; exact HG1.out))).mono ?_
    rintro e w19 ⟨rfl, hb⟩
    have hW := up_trans HW.out hb
    clear hb
    go_wp2_with fail
    go_ret
    exact ⟨rfl, hW⟩

end Go.Proofs.YtbjlkdenkmbepaaGreatDoor
