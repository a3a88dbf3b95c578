/- What is proved here: What is proved here: contracts of the reference's EditorDo at right and left. What is proved here: contracts of the reference's EditorDo at undo and redo. No condition. -/
import Derived.Test.YtbjlkdenkmbepaaGreatDoorSp2
import Derived.Test.YtbjlkdenkmbepaaGreatDoorAc5
import Derived.BigRegion
import Derived.Deep.Cut
import Derived.BigQuiet
import Derived.Test.YtbjlkdenkmbepaaGreatDoorHistE
import Derived.Test.YtbjlkdenkmbepaaGreatDoorHistJ
namespace Go.Proofs.YtbjlkdenkmbepaaGreatDoor
open Go.RowKit
set_option linter.unusedVariables false
set_option linter.unusedSimpArgs false

set_option maxRecDepth 100000 in
set_option maxHeartbeats 1000000 in
theorem sdo_right (e : Es) (o : List (List UInt8)) (v : Value) (a : List UInt8) (w : World) (h : RdM w v e.ms) (hin : EdIn e o) (hnm : a = [114, 105, 103, 104, 116]) :
    Calls Tryz.prog 19 #[edW e v, S a] w (EdOut w.heap.size (edDo e o .right) e w) := by
  have HS := Lib.hid (fun (j : Nat) (hj : j < a.length) => ne32 (a := a) (by rw [hnm]; decide) hj)
  have n0 : (a == [112, 117, 116]) = false := by rw [hnm]; rfl
  have n1 : (a == [108, 105, 110, 101]) = false := by rw [hnm]; rfl
  have n2 : (a == [99, 117, 116]) = false := by rw [hnm]; rfl
  have n3 : (a == [112, 97, 115, 116, 101]) = false := by rw [hnm]; rfl
  have n4 : (a == [114, 105, 103, 104, 116]) = true := by rw [hnm]; rfl
  have hal : a.length ≤ 10 := by rw [hnm]; decide
  clear hnm
  have hsl := tv_len hin.g.t
  have hn30 := hin.g.n30
  have hcl := tv_len hin.c
  have hok := hin.ok
  have OW := Lib.hid (fun (w' : World) (hb : Below w.heap.size w w') => l1OwnEditor_any v e.ms e.pa e.s e.x e.cl w' (h.up hb) (by omega))
  have EV := Lib.hid (fun (u : Value) (w' : World) (h' : RdM w' u e.ms) => (specEditorValid_any u e.ms e.pa e.s e.x e.cl w' h' (by omega) (by unfold maxLen; omega) (by unfold maxLen; omega)).mono fun en w2 ⟨ok, h1, h2, h3⟩ => (show en = Ending.returned (.bool true) ∧ Below w'.heap.size w' w2 from ⟨by rw [h1, h2.2 hok], h3⟩))
  have HP := Lib.hid h.2
  unfold EdOwn at OW
  obtain ⟨p, hp⟩ : ∃ p : Nat, e.x = p := ⟨e.x.toNat, by have := hin.x0; omega⟩
  have hpl : p ≤ e.s.length := by have := hin.x1; omega
  have WD := Lib.hid (fun w => (specWordRight_any e.s p w hin.g.t hpl).mono fun en w' ⟨h1, h2⟩ => (show en = Ending.returned (.int .i64 (moR e.s p : Nat)) ∧ Below w.heap.size w w' from ⟨h1, h2⟩))
  have HN := Lib.hid (show edDo e o .right = some { e with x := (moR e.s p : Nat) } by show some { e with x := (moR e.s e.x.toNat : Nat) } = _; rw [hp, Int.toNat_natCast])
  generalize moR e.s p = q at *
  generalize edDo e o .right = R at *
  obtain ⟨s, x, cl, ms, pa⟩ := e
  simp only at *
  subst hp
  unfold EdOut
  obtain ⟨A, k, rfl, _, _⟩ := h.1.form
  unfold edW
  unfold edAgg at OW EV ⊢
  clear h hin hok
  go_enter Tryz.func19, Tryz.ntmps19
  go_wp2_with fail
  refine (OW.out _ (by exact bBel)).mono ?_
  rintro en w1 ⟨u, rfl, ho, hb⟩
  have xc : ∀ o, w1.cell? ⟨w.heap.size, o, none⟩ = #[S s, .int .i64 (p : Int), S cl, .slice A ms.length k, .int .i64 pa][o]? := (fun o => (hb.cell (p := ⟨w.heap.size, o, none⟩) (by simp <;> omega)).trans (by simp [go_sem])); have xf : ∀ o, w1.frozen? ⟨w.heap.size, o, none⟩ = false := (fun o => (hb.frozen (p := ⟨w.heap.size, o, none⟩) (by simp <;> omega)).trans (by simp [go_sem])); have xz : w.heap.size < w1.heap.size := (by have := hb.size; (try simp at this); omega); have xy := xz
  have zc : ∀ o, w1.cell? ⟨w.heap.size + 1, o, none⟩ = #[S [], .int .i64 0, S [], .slice none 0 0, .int .i64 0][o]? := (fun o => (hb.cell (p := ⟨w.heap.size + 1, o, none⟩) (by simp <;> omega)).trans (by simp [go_sem])); have zf : ∀ o, w1.frozen? ⟨w.heap.size + 1, o, none⟩ = false := (fun o => (hb.frozen (p := ⟨w.heap.size + 1, o, none⟩) (by simp <;> omega)).trans (by simp [go_sem])); have zz : w.heap.size + 1 < w1.heap.size := (by have := hb.size; (try simp at this); omega); have zy := zz
  have hW : Below w.heap.size w w1 := by exact bBel
  have HO1 := Lib.hid (own_base ho (show w.heap.size + 2 ≤ _ by simp))
  obtain ⟨UA, UC, rfl, -, -⟩ := (RdL.of_own (f := moC) (bs := ms) ho).form
  have HW := Lib.hid hW
  clear hb ho OW hW xy zy
  go_upto_region 2 with (fail)
  obtain ⟨W2, hw⟩ : ∃ q, q = ((((w1.setCell ⟨w.heap.size, 0, none⟩ (S s)).setCell ⟨w.heap.size, 1, none⟩ (.int .i64 (p : Int))).setCell ⟨w.heap.size, 2, none⟩ (S cl)).setCell ⟨w.heap.size, 3, none⟩ (.slice UA ms.length UC)).setCell ⟨w.heap.size, 4, none⟩ (.int .i64 pa) := ⟨_, rfl⟩
  rw [← hw]
  have xI : Is W2 w.heap.size #[S s, .int .i64 (p : Int), S cl, .slice UA ms.length UC, .int .i64 pa] := by rw [hw]; exact is_all5 ⟨xc, xf⟩ _ _ _ _ _
  have zI : Is W2 (w.heap.size + 1) #[S [], .int .i64 0, S [], .slice none 0 0, .int .i64 0] := by rw [hw]; exact is_far5 ⟨zc, zf⟩ (by omega) _ _ _ _ _
  have hB2 : Below w.heap.size w1 W2 := by
    rw [hw]
    have hQ := Below.refl w.heap.size w1
    (repeat refine Below.setCell ?_ (by first | exact Nat.le_refl _ | (simp; done) | (simp; omega)) _)
    exact hQ
  have HO2 := Lib.hid (show OwnM W2 (w.heap.size + 2) (.slice UA ms.length UC) ms by rw [hw]; exact own_all5 HO1.out (by omega) _ _ _ _ _)
  have xz2 : w.heap.size < W2.heap.size := Nat.lt_of_lt_of_le xz hB2.size
  have zz2 : w.heap.size + 1 < W2.heap.size := Nat.lt_of_lt_of_le zz hB2.size
  have HW2 := Lib.hid (show Below w.heap.size w W2 from HW.out.trans hB2)
  have xc2 := xI.1
  clear hw hB2 HO1 HW xc xf xz zc zf zz
  go_wp2_with fail
  refine (EV.out _ _ ⟨RdL.of_own HO2.out, HP.out⟩).mono ?_
  rintro en w3 ⟨rfl, hb⟩
  replace xI := xI.up xz2 hb
  replace zI := zI.up zz2 hb
  have xz := Nat.lt_of_lt_of_le xz2 hb.size
  have zz := Nat.lt_of_lt_of_le zz2 hb.size
  have HO := Lib.hid (own_up HO2.out hb)
  have HW := Lib.hid (up_trans HW2.out hb)
  have XI := Lib.hid xI
  have ZI := Lib.hid zI
  have xc := xI.1
  have xf := xI.2
  have zc := zI.1
  have zf := zI.2
  clear hb EV HO2 HW2 xI zI xc2 xz2 zz2
  go_wp2_with fail
  go_loop [6, 7, 8] (fun nm rs i => ∃ j : Nat, j ≤ a.length ∧ nm = S a ∧ rs = S [] ∧ i = .int .i64 j) (fun _ _ i => a.length - (intOf i).toNat)
  case atStart => exact ⟨0, Nat.zero_le _, rfl, rfl, rfl⟩
  case round =>
    obtain ⟨j, hj, rfl, rfl, rfl⟩ := hrel
    have i0 : (0 : Int) ≤ (j : Int) := by omega
    by_cases hlt : j < a.length
    · have i2 : (j : Int) < (a.length : Int) := by omega
      have d0 := HS.out j hlt
      go_wp2_with fail
      go_round
      case rel => exact ⟨j + 1, by omega, rfl, rfl, by go_num⟩
      case measure => simp [intOf]; omega
    obtain rfl : j = a.length := by omega
    have i2 : ¬ (a.length : Int) < (a.length : Int) := by omega
    clear hlt hj HS
    go_upto_region 25 with (fail)
    have HM0 : EX5 (w.heap.size + 1) w3.drew := ⟨⟨_, _, _, _, _, (show Is w3.drew (w.heap.size + 1) _ from ZI.out)⟩, zz⟩
    obtain ⟨r, hr⟩ : ∃ r, r = w.heap.size + 1 := ⟨_, rfl⟩
    obtain ⟨B0, hB0⟩ : ∃ r, r = w.heap.size + 2 := ⟨_, rfl⟩
    obtain ⟨qx, hqx⟩ : ∃ q, q = w.heap.size := ⟨_, rfl⟩
    have nxr : qx ≠ r := by omega
    have hrB : r < B0 := by omega
    have hqr : w.heap.size ≤ r := by omega
    have hqB : w.heap.size ≤ B0 := by omega
    have hB3 : B0 ≤ w3.heap.size := by omega
    have e1 : w.heap.size + 1 = r := hr.symm
    have HBE := Lib.hid hB0.symm
    rw [← hr] at HM0 zz
    simp only [e1]
    rw [show w.heap.size + 2 = B0 from HBE.out] at HO
    rw [← hqx] at xc xz ⊢
    clear zc zf hr hqx hB0 e1
    --EVER{spec.EditorDo;25;sdright}
    refine wp_region_ever (R := RQ r (FX r B0 ⟨s, (q : Int), cl, ms, pa⟩)) (M := fun _ w => EX5 r w) [qEq _ _ (.pointer (some ⟨qx, 0, none⟩)), qEq _ _ (S s), qEq _ _ (.pointer (some ⟨qx, 0, none⟩)), qEq _ _ (S s), qEq _ _ (.pointer (some ⟨qx, 1, none⟩)), qEq _ _ (.int .i64 (p : Int)), qEq _ _ (.int .i64 (q : Int)), qEq _ _ (.pointer (some ⟨qx, 2, none⟩)), qEq _ _ (S cl), qEq _ _ (.pointer (some ⟨qx, 3, none⟩)), qEq _ _ (.agg #[.slice UA ms.length UC, .int .i64 pa]), qEq _ _ (.agg #[S s, .int .i64 (q : Int), S cl, .slice UA ms.length UC, .int .i64 pa]), qPut _ _, qEq _ _ (.bool true)] (by kernel_rfl) (RQ.refl _ _) (fun _ _ _ => RQ.trans) (by kernel_rfl) (HM0) ?_ ?_
    · refine ⟨?_, ?_, ?_, ?_, ?_, ?_, ?_, ?_, ?_, ?_, ?_, ?_, ?_, ?_, trivial⟩
      · intro k' w' ρ hk' hR hM hF
        replace hk' : k' < 14 := hk'
        obtain ⟨f0, -⟩ := hF
        replace f0 : ρ (.tmp 2) = .pointer (some ⟨qx, 0, none⟩) := f0
        refine good_of fun K hK => ?_
        go_simp
        exact hK _ _ (RQ.refl _ _ _) (hM) (rfl)
      · intro k' w' ρ hk' hR hM hF
        replace hk' : k' < 14 := hk'
        obtain ⟨f0, -⟩ := hF
        replace f0 : ρ (.tmp 140) = .pointer (some ⟨qx, 0, none⟩) := f0
        refine good_of fun K hK => ?_
        have z0 := gup_c hR.grown xz nxr xc 0; simp only [List.getElem?_toArray, List.getElem?_cons_zero, List.getElem?_cons_succ] at z0; go_simp; exact hK _ _ (RQ.refl _ _ _) hM rfl
      · intro k' w' ρ hk' hR hM hF
        replace hk' : k' < 14 := hk'
        obtain ⟨f0, -⟩ := hF
        replace f0 : ρ (.tmp 2) = .pointer (some ⟨qx, 0, none⟩) := f0
        refine good_of fun K hK => ?_
        go_simp
        exact hK _ _ (RQ.refl _ _ _) (hM) (rfl)
      · intro k' w' ρ hk' hR hM hF
        replace hk' : k' < 14 := hk'
        obtain ⟨f0, -⟩ := hF
        replace f0 : ρ (.tmp 142) = .pointer (some ⟨qx, 0, none⟩) := f0
        refine good_of fun K hK => ?_
        have z0 := gup_c hR.grown xz nxr xc 0; simp only [List.getElem?_toArray, List.getElem?_cons_zero, List.getElem?_cons_succ] at z0; go_simp; exact hK _ _ (RQ.refl _ _ _) hM rfl
      · intro k' w' ρ hk' hR hM hF
        replace hk' : k' < 14 := hk'
        obtain ⟨f0, -⟩ := hF
        replace f0 : ρ (.tmp 2) = .pointer (some ⟨qx, 0, none⟩) := f0
        refine good_of fun K hK => ?_
        go_simp
        exact hK _ _ (RQ.refl _ _ _) (hM) (rfl)
      · intro k' w' ρ hk' hR hM hF
        replace hk' : k' < 14 := hk'
        obtain ⟨f0, -⟩ := hF
        replace f0 : ρ (.tmp 144) = .pointer (some ⟨qx, 1, none⟩) := f0
        refine good_of fun K hK => ?_
        have z1 := gup_c hR.grown xz nxr xc 1; simp only [List.getElem?_toArray, List.getElem?_cons_zero, List.getElem?_cons_succ] at z1; go_simp; exact hK _ _ (RQ.refl _ _ _) hM rfl
      · intro k' w' ρ hk' hR hM hF
        replace hk' : k' < 14 := hk'
        obtain ⟨f0, f1, f2, -⟩ := hF
        replace f0 : ρ (.func _) = .func (.func _) #[] #[] := f0
        replace f1 : ρ (.tmp 143) = S s := f1
        replace f2 : ρ (.tmp 145) = .int .i64 (p : Int) := f2
        refine good_of fun K hK => ?_
        go_simp; refine (WD.out _).mono ?_; rintro en wc ⟨rfl, hb⟩; exact ⟨_, rfl, hK _ _ (rx_below hb) (hM.up hb) rfl⟩
      · intro k' w' ρ hk' hR hM hF
        replace hk' : k' < 14 := hk'
        obtain ⟨f0, -⟩ := hF
        replace f0 : ρ (.tmp 2) = .pointer (some ⟨qx, 0, none⟩) := f0
        refine good_of fun K hK => ?_
        go_simp
        exact hK _ _ (RQ.refl _ _ _) (hM) (rfl)
      · intro k' w' ρ hk' hR hM hF
        replace hk' : k' < 14 := hk'
        obtain ⟨f0, -⟩ := hF
        replace f0 : ρ (.tmp 147) = .pointer (some ⟨qx, 2, none⟩) := f0
        refine good_of fun K hK => ?_
        have z2 := gup_c hR.grown xz nxr xc 2; simp only [List.getElem?_toArray, List.getElem?_cons_zero, List.getElem?_cons_succ] at z2; go_simp; exact hK _ _ (RQ.refl _ _ _) hM rfl
      · intro k' w' ρ hk' hR hM hF
        replace hk' : k' < 14 := hk'
        obtain ⟨f0, -⟩ := hF
        replace f0 : ρ (.tmp 2) = .pointer (some ⟨qx, 0, none⟩) := f0
        refine good_of fun K hK => ?_
        go_simp
        exact hK _ _ (RQ.refl _ _ _) (hM) (rfl)
      · intro k' w' ρ hk' hR hM hF
        replace hk' : k' < 14 := hk'
        obtain ⟨f0, -⟩ := hF
        replace f0 : ρ (.tmp 149) = .pointer (some ⟨qx, 3, none⟩) := f0
        refine good_of fun K hK => ?_
        have z3 := gup_c hR.grown xz nxr xc 3; have z4 := gup_c hR.grown xz nxr xc 4; simp only [List.getElem?_toArray, List.getElem?_cons_zero, List.getElem?_cons_succ] at z3 z4; go_simp; exact hK _ _ (RQ.refl _ _ _) hM rfl
      · intro k' w' ρ hk' hR hM hF
        replace hk' : k' < 14 := hk'
        obtain ⟨f0, f1, f2, f3, -⟩ := hF
        replace f0 : ρ (.tmp 141) = S s := f0
        replace f1 : ρ (.tmp 146) = .int .i64 (q : Int) := f1
        replace f2 : ρ (.tmp 148) = S cl := f2
        replace f3 : ρ (.tmp 150) = .agg #[.slice UA ms.length UC, .int .i64 pa] := f3
        refine good_of fun K hK => ?_
        go_simp
        exact hK _ _ (RQ.refl _ _ _) (hM) (rfl)
      · intro k' w' ρ hk' hR hM hF
        replace hk' : k' < 14 := hk'
        obtain ⟨f0, f1, -⟩ := hF
        replace f0 : ρ (.tmp 4) = .pointer (some ⟨r, 0, none⟩) := f0
        replace f1 : ρ (.tmp 151) = .agg #[S s, .int .i64 (q : Int), S cl, .slice UA ms.length UC, .int .i64 pa] := f1
        refine good_of fun K hK => ?_
        have BB := Lib.hid (x5_put (e := ⟨s, (q : Int), cl, ms, pa⟩) hM hrB (gup_own HO.out hR.grown hrB)); obtain ⟨⟨u0, u1, u2, u3, u4, hI⟩, hrz⟩ := hM; have z0 := hI.1 0; have z1 := hI.1 1; have z2 := hI.1 2; have z3 := hI.1 3; have z4 := hI.1 4; have zf := hI.2; simp only [List.getElem?_toArray, List.getElem?_cons_zero, List.getElem?_cons_succ] at z0 z1 z2 z3 z4; clear hI; go_simp; exact hK _ _ BB.out.1 BB.out.2.1 BB.out.2.2
      · intro k' w' ρ hk' hR hM hF
        replace hk' : k' < 14 := hk'
        obtain ⟨f0, -⟩ := hF
        refine good_of fun K hK => ?_
        replace f0 : ρ (.const (.bool true)) = .bool true := f0; go_simp; exact hK _ _ (RQ.refl _ _ _) hM rfl
    · intro w' hR hM
      rintro _ rfl
      rintro _ rfl
      rintro _ rfl
      rintro _ rfl
      rintro _ rfl
      rintro _ rfl
      rintro _ rfl
      rintro _ rfl
      rintro _ rfl
      rintro _ rfl
      rintro _ rfl
      rintro _ rfl
      rintro _ hFX
      rintro _ rfl
    --END
    --END
      dsimp only [EndAll, Act.put]
      simp only [List.setIfInBounds_toArray, List.set_cons_zero, List.set_cons_succ]
      obtain ⟨w4, rfl⟩ : ∃ z, z = w' := ⟨_, rfl⟩
      obtain ⟨u4, zI, ho4, rz⟩ := hFX
      have HW4 := Lib.hid (up_grown HW.out hR.grown (fun k hk => by injection hk with hk; omega))
      have HO4 := Lib.hid (own_base ho4 hqB)
      clear WD hR hM HM0
      obtain ⟨A4, c4, rfl, -, -⟩ := (RdL.of_own (f := moC) (bs := ms) ho4).form
      have zc := zI.1
      go_wp2_with fail
      refine bodyPost_ret (v := .tuple #[.agg #[S s, .int .i64 q, S cl, .slice A4 ms.length c4, .int .i64 pa], .bool true]) (by simp [results, Tryz.results19, go_sem, zc]) rfl ⟨.slice A4 ms.length c4, by rw [HN.out] <;> rfl, by rw [HN.out]; exact HO4.out, HW4.out⟩
set_option maxRecDepth 100000 in
set_option maxHeartbeats 1000000 in
theorem sdo_left (e : Es) (o : List (List UInt8)) (v : Value) (a : List UInt8) (w : World) (h : RdM w v e.ms) (hin : EdIn e o) (hnm : a = [108, 101, 102, 116]) :
    Calls Tryz.prog 19 #[edW e v, S a] w (EdOut w.heap.size (edDo e o .left) e w) := by
  have HS := Lib.hid (fun (j : Nat) (hj : j < a.length) => ne32 (a := a) (by rw [hnm]; decide) hj)
  have n0 : (a == [112, 117, 116]) = false := by rw [hnm]; rfl
  have n1 : (a == [108, 105, 110, 101]) = false := by rw [hnm]; rfl
  have n2 : (a == [99, 117, 116]) = false := by rw [hnm]; rfl
  have n3 : (a == [112, 97, 115, 116, 101]) = false := by rw [hnm]; rfl
  have n4 : (a == [114, 105, 103, 104, 116]) = false := by rw [hnm]; rfl
  have n5 : (a == [108, 101, 102, 116]) = true := by rw [hnm]; rfl
  have hal : a.length ≤ 10 := by rw [hnm]; decide
  clear hnm
  have hsl := tv_len hin.g.t
  have hn30 := hin.g.n30
  have hcl := tv_len hin.c
  have hok := hin.ok
  have OW := Lib.hid (fun (w' : World) (hb : Below w.heap.size w w') => l1OwnEditor_any v e.ms e.pa e.s e.x e.cl w' (h.up hb) (by omega))
  have EV := Lib.hid (fun (u : Value) (w' : World) (h' : RdM w' u e.ms) => (specEditorValid_any u e.ms e.pa e.s e.x e.cl w' h' (by omega) (by unfold maxLen; omega) (by unfold maxLen; omega)).mono fun en w2 ⟨ok, h1, h2, h3⟩ => (show en = Ending.returned (.bool true) ∧ Below w'.heap.size w' w2 from ⟨by rw [h1, h2.2 hok], h3⟩))
  have HP := Lib.hid h.2
  unfold EdOwn at OW
  obtain ⟨p, hp⟩ : ∃ p : Nat, e.x = p := ⟨e.x.toNat, by have := hin.x0; omega⟩
  have hpl : p ≤ e.s.length := by have := hin.x1; omega
  have WD := Lib.hid (fun w => (specWordLeft_any e.s p w hin.g.t hpl).mono fun en w' ⟨h1, h2⟩ => (show en = Ending.returned (.int .i64 (moL e.s p : Nat)) ∧ Below w.heap.size w w' from ⟨h1, h2 ▸ Below.refl _ _⟩))
  have HN := Lib.hid (show edDo e o .left = some { e with x := (moL e.s p : Nat) } by show some { e with x := (moL e.s e.x.toNat : Nat) } = _; rw [hp, Int.toNat_natCast])
  generalize moL e.s p = q at *
  generalize edDo e o .left = R at *
  obtain ⟨s, x, cl, ms, pa⟩ := e
  simp only at *
  subst hp
  unfold EdOut
  obtain ⟨A, k, rfl, _, _⟩ := h.1.form
  unfold edW
  unfold edAgg at OW EV ⊢
  clear h hin hok
  go_enter Tryz.func19, Tryz.ntmps19
  go_wp2_with fail
  refine (OW.out _ (by exact bBel)).mono ?_
  rintro en w1 ⟨u, rfl, ho, hb⟩
  have xc : ∀ o, w1.cell? ⟨w.heap.size, o, none⟩ = #[S s, .int .i64 (p : Int), S cl, .slice A ms.length k, .int .i64 pa][o]? := (fun o => (hb.cell (p := ⟨w.heap.size, o, none⟩) (by simp <;> omega)).trans (by simp [go_sem])); have xf : ∀ o, w1.frozen? ⟨w.heap.size, o, none⟩ = false := (fun o => (hb.frozen (p := ⟨w.heap.size, o, none⟩) (by simp <;> omega)).trans (by simp [go_sem])); have xz : w.heap.size < w1.heap.size := (by have := hb.size; (try simp at this); omega); have xy := xz
  have zc : ∀ o, w1.cell? ⟨w.heap.size + 1, o, none⟩ = #[S [], .int .i64 0, S [], .slice none 0 0, .int .i64 0][o]? := (fun o => (hb.cell (p := ⟨w.heap.size + 1, o, none⟩) (by simp <;> omega)).trans (by simp [go_sem])); have zf : ∀ o, w1.frozen? ⟨w.heap.size + 1, o, none⟩ = false := (fun o => (hb.frozen (p := ⟨w.heap.size + 1, o, none⟩) (by simp <;> omega)).trans (by simp [go_sem])); have zz : w.heap.size + 1 < w1.heap.size := (by have := hb.size; (try simp at this); omega); have zy := zz
  have hW : Below w.heap.size w w1 := by exact bBel
  have HO1 := Lib.hid (own_base ho (show w.heap.size + 2 ≤ _ by simp))
  obtain ⟨UA, UC, rfl, -, -⟩ := (RdL.of_own (f := moC) (bs := ms) ho).form
  have HW := Lib.hid hW
  clear hb ho OW hW xy zy
  go_upto_region 2 with (fail)
  obtain ⟨W2, hw⟩ : ∃ q, q = ((((w1.setCell ⟨w.heap.size, 0, none⟩ (S s)).setCell ⟨w.heap.size, 1, none⟩ (.int .i64 (p : Int))).setCell ⟨w.heap.size, 2, none⟩ (S cl)).setCell ⟨w.heap.size, 3, none⟩ (.slice UA ms.length UC)).setCell ⟨w.heap.size, 4, none⟩ (.int .i64 pa) := ⟨_, rfl⟩
  rw [← hw]
  have xI : Is W2 w.heap.size #[S s, .int .i64 (p : Int), S cl, .slice UA ms.length UC, .int .i64 pa] := by rw [hw]; exact is_all5 ⟨xc, xf⟩ _ _ _ _ _
  have zI : Is W2 (w.heap.size + 1) #[S [], .int .i64 0, S [], .slice none 0 0, .int .i64 0] := by rw [hw]; exact is_far5 ⟨zc, zf⟩ (by omega) _ _ _ _ _
  have hB2 : Below w.heap.size w1 W2 := by
    rw [hw]
    have hQ := Below.refl w.heap.size w1
    (repeat refine Below.setCell ?_ (by first | exact Nat.le_refl _ | (simp; done) | (simp; omega)) _)
    exact hQ
  have HO2 := Lib.hid (show OwnM W2 (w.heap.size + 2) (.slice UA ms.length UC) ms by rw [hw]; exact own_all5 HO1.out (by omega) _ _ _ _ _)
  have xz2 : w.heap.size < W2.heap.size := Nat.lt_of_lt_of_le xz hB2.size
  have zz2 : w.heap.size + 1 < W2.heap.size := Nat.lt_of_lt_of_le zz hB2.size
  have HW2 := Lib.hid (show Below w.heap.size w W2 from HW.out.trans hB2)
  have xc2 := xI.1
  clear hw hB2 HO1 HW xc xf xz zc zf zz
  go_wp2_with fail
  refine (EV.out _ _ ⟨RdL.of_own HO2.out, HP.out⟩).mono ?_
  rintro en w3 ⟨rfl, hb⟩
  replace xI := xI.up xz2 hb
  replace zI := zI.up zz2 hb
  have xz := Nat.lt_of_lt_of_le xz2 hb.size
  have zz := Nat.lt_of_lt_of_le zz2 hb.size
  have HO := Lib.hid (own_up HO2.out hb)
  have HW := Lib.hid (up_trans HW2.out hb)
  have XI := Lib.hid xI
  have ZI := Lib.hid zI
  have xc := xI.1
  have xf := xI.2
  have zc := zI.1
  have zf := zI.2
  clear hb EV HO2 HW2 xI zI xc2 xz2 zz2
  go_wp2_with fail
  go_loop [6, 7, 8] (fun nm rs i => ∃ j : Nat, j ≤ a.length ∧ nm = S a ∧ rs = S [] ∧ i = .int .i64 j) (fun _ _ i => a.length - (intOf i).toNat)
  case atStart => exact ⟨0, Nat.zero_le _, rfl, rfl, rfl⟩
  case round =>
    obtain ⟨j, hj, rfl, rfl, rfl⟩ := hrel
    have i0 : (0 : Int) ≤ (j : Int) := by omega
    by_cases hlt : j < a.length
    · have i2 : (j : Int) < (a.length : Int) := by omega
      have d0 := HS.out j hlt
      go_wp2_with fail
      go_round
      case rel => exact ⟨j + 1, by omega, rfl, rfl, by go_num⟩
      case measure => simp [intOf]; omega
    obtain rfl : j = a.length := by omega
    have i2 : ¬ (a.length : Int) < (a.length : Int) := by omega
    clear hlt hj HS
    go_upto_region 27 with (fail)
    have HM0 : EX5 (w.heap.size + 1) w3.drew := ⟨⟨_, _, _, _, _, (show Is w3.drew (w.heap.size + 1) _ from ZI.out)⟩, zz⟩
    obtain ⟨r, hr⟩ : ∃ r, r = w.heap.size + 1 := ⟨_, rfl⟩
    obtain ⟨B0, hB0⟩ : ∃ r, r = w.heap.size + 2 := ⟨_, rfl⟩
    obtain ⟨qx, hqx⟩ : ∃ q, q = w.heap.size := ⟨_, rfl⟩
    have nxr : qx ≠ r := by omega
    have hrB : r < B0 := by omega
    have hqr : w.heap.size ≤ r := by omega
    have hqB : w.heap.size ≤ B0 := by omega
    have hB3 : B0 ≤ w3.heap.size := by omega
    have e1 : w.heap.size + 1 = r := hr.symm
    have HBE := Lib.hid hB0.symm
    rw [← hr] at HM0 zz
    simp only [e1]
    rw [show w.heap.size + 2 = B0 from HBE.out] at HO
    rw [← hqx] at xc xz ⊢
    clear zc zf hr hqx hB0 e1
    --EVER{spec.EditorDo;27;sdleft}
    refine wp_region_ever (R := RQ r (FX r B0 ⟨s, (q : Int), cl, ms, pa⟩)) (M := fun _ w => EX5 r w) [qEq _ _ (.pointer (some ⟨qx, 0, none⟩)), qEq _ _ (S s), qEq _ _ (.pointer (some ⟨qx, 0, none⟩)), qEq _ _ (S s), qEq _ _ (.pointer (some ⟨qx, 1, none⟩)), qEq _ _ (.int .i64 (p : Int)), qEq _ _ (.int .i64 (q : Int)), qEq _ _ (.pointer (some ⟨qx, 2, none⟩)), qEq _ _ (S cl), qEq _ _ (.pointer (some ⟨qx, 3, none⟩)), qEq _ _ (.agg #[.slice UA ms.length UC, .int .i64 pa]), qEq _ _ (.agg #[S s, .int .i64 (q : Int), S cl, .slice UA ms.length UC, .int .i64 pa]), qPut _ _, qEq _ _ (.bool true)] (by kernel_rfl) (RQ.refl _ _) (fun _ _ _ => RQ.trans) (by kernel_rfl) (HM0) ?_ ?_
    · refine ⟨?_, ?_, ?_, ?_, ?_, ?_, ?_, ?_, ?_, ?_, ?_, ?_, ?_, ?_, trivial⟩
      · intro k' w' ρ hk' hR hM hF
        replace hk' : k' < 14 := hk'
        obtain ⟨f0, -⟩ := hF
        replace f0 : ρ (.tmp 2) = .pointer (some ⟨qx, 0, none⟩) := f0
        refine good_of fun K hK => ?_
        go_simp
        exact hK _ _ (RQ.refl _ _ _) (hM) (rfl)
      · intro k' w' ρ hk' hR hM hF
        replace hk' : k' < 14 := hk'
        obtain ⟨f0, -⟩ := hF
        replace f0 : ρ (.tmp 158) = .pointer (some ⟨qx, 0, none⟩) := f0
        refine good_of fun K hK => ?_
        have z0 := gup_c hR.grown xz nxr xc 0; simp only [List.getElem?_toArray, List.getElem?_cons_zero, List.getElem?_cons_succ] at z0; go_simp; exact hK _ _ (RQ.refl _ _ _) hM rfl
      · intro k' w' ρ hk' hR hM hF
        replace hk' : k' < 14 := hk'
        obtain ⟨f0, -⟩ := hF
        replace f0 : ρ (.tmp 2) = .pointer (some ⟨qx, 0, none⟩) := f0
        refine good_of fun K hK => ?_
        go_simp
        exact hK _ _ (RQ.refl _ _ _) (hM) (rfl)
      · intro k' w' ρ hk' hR hM hF
        replace hk' : k' < 14 := hk'
        obtain ⟨f0, -⟩ := hF
        replace f0 : ρ (.tmp 160) = .pointer (some ⟨qx, 0, none⟩) := f0
        refine good_of fun K hK => ?_
        have z0 := gup_c hR.grown xz nxr xc 0; simp only [List.getElem?_toArray, List.getElem?_cons_zero, List.getElem?_cons_succ] at z0; go_simp; exact hK _ _ (RQ.refl _ _ _) hM rfl
      · intro k' w' ρ hk' hR hM hF
        replace hk' : k' < 14 := hk'
        obtain ⟨f0, -⟩ := hF
        replace f0 : ρ (.tmp 2) = .pointer (some ⟨qx, 0, none⟩) := f0
        refine good_of fun K hK => ?_
        go_simp
        exact hK _ _ (RQ.refl _ _ _) (hM) (rfl)
      · intro k' w' ρ hk' hR hM hF
        replace hk' : k' < 14 := hk'
        obtain ⟨f0, -⟩ := hF
        replace f0 : ρ (.tmp 162) = .pointer (some ⟨qx, 1, none⟩) := f0
        refine good_of fun K hK => ?_
        have z1 := gup_c hR.grown xz nxr xc 1; simp only [List.getElem?_toArray, List.getElem?_cons_zero, List.getElem?_cons_succ] at z1; go_simp; exact hK _ _ (RQ.refl _ _ _) hM rfl
      · intro k' w' ρ hk' hR hM hF
        replace hk' : k' < 14 := hk'
        obtain ⟨f0, f1, f2, -⟩ := hF
        replace f0 : ρ (.func _) = .func (.func _) #[] #[] := f0
        replace f1 : ρ (.tmp 161) = S s := f1
        replace f2 : ρ (.tmp 163) = .int .i64 (p : Int) := f2
        refine good_of fun K hK => ?_
        go_simp; refine (WD.out _).mono ?_; rintro en wc ⟨rfl, hb⟩; exact ⟨_, rfl, hK _ _ (rx_below hb) (hM.up hb) rfl⟩
      · intro k' w' ρ hk' hR hM hF
        replace hk' : k' < 14 := hk'
        obtain ⟨f0, -⟩ := hF
        replace f0 : ρ (.tmp 2) = .pointer (some ⟨qx, 0, none⟩) := f0
        refine good_of fun K hK => ?_
        go_simp
        exact hK _ _ (RQ.refl _ _ _) (hM) (rfl)
      · intro k' w' ρ hk' hR hM hF
        replace hk' : k' < 14 := hk'
        obtain ⟨f0, -⟩ := hF
        replace f0 : ρ (.tmp 165) = .pointer (some ⟨qx, 2, none⟩) := f0
        refine good_of fun K hK => ?_
        have z2 := gup_c hR.grown xz nxr xc 2; simp only [List.getElem?_toArray, List.getElem?_cons_zero, List.getElem?_cons_succ] at z2; go_simp; exact hK _ _ (RQ.refl _ _ _) hM rfl
      · intro k' w' ρ hk' hR hM hF
        replace hk' : k' < 14 := hk'
        obtain ⟨f0, -⟩ := hF
        replace f0 : ρ (.tmp 2) = .pointer (some ⟨qx, 0, none⟩) := f0
        refine good_of fun K hK => ?_
        go_simp
        exact hK _ _ (RQ.refl _ _ _) (hM) (rfl)
      · intro k' w' ρ hk' hR hM hF
        replace hk' : k' < 14 := hk'
        obtain ⟨f0, -⟩ := hF
        replace f0 : ρ (.tmp 167) = .pointer (some ⟨qx, 3, none⟩) := f0
        refine good_of fun K hK => ?_
        have z3 := gup_c hR.grown xz nxr xc 3; have z4 := gup_c hR.grown xz nxr xc 4; simp only [List.getElem?_toArray, List.getElem?_cons_zero, List.getElem?_cons_succ] at z3 z4; go_simp; exact hK _ _ (RQ.refl _ _ _) hM rfl
      · intro k' w' ρ hk' hR hM hF
        replace hk' : k' < 14 := hk'
        obtain ⟨f0, f1, f2, f3, -⟩ := hF
        replace f0 : ρ (.tmp 159) = S s := f0
        replace f1 : ρ (.tmp 164) = .int .i64 (q : Int) := f1
        replace f2 : ρ (.tmp 166) = S cl := f2
        replace f3 : ρ (.tmp 168) = .agg #[.slice UA ms.length UC, .int .i64 pa] := f3
        refine good_of fun K hK => ?_
        go_simp
        exact hK _ _ (RQ.refl _ _ _) (hM) (rfl)
      · intro k' w' ρ hk' hR hM hF
        replace hk' : k' < 14 := hk'
        obtain ⟨f0, f1, -⟩ := hF
        replace f0 : ρ (.tmp 4) = .pointer (some ⟨r, 0, none⟩) := f0
        replace f1 : ρ (.tmp 169) = .agg #[S s, .int .i64 (q : Int), S cl, .slice UA ms.length UC, .int .i64 pa] := f1
        refine good_of fun K hK => ?_
        have BB := Lib.hid (x5_put (e := ⟨s, (q : Int), cl, ms, pa⟩) hM hrB (gup_own HO.out hR.grown hrB)); obtain ⟨⟨u0, u1, u2, u3, u4, hI⟩, hrz⟩ := hM; have z0 := hI.1 0; have z1 := hI.1 1; have z2 := hI.1 2; have z3 := hI.1 3; have z4 := hI.1 4; have zf := hI.2; simp only [List.getElem?_toArray, List.getElem?_cons_zero, List.getElem?_cons_succ] at z0 z1 z2 z3 z4; clear hI; go_simp; exact hK _ _ BB.out.1 BB.out.2.1 BB.out.2.2
      · intro k' w' ρ hk' hR hM hF
        replace hk' : k' < 14 := hk'
        obtain ⟨f0, -⟩ := hF
        refine good_of fun K hK => ?_
        replace f0 : ρ (.const (.bool true)) = .bool true := f0; go_simp; exact hK _ _ (RQ.refl _ _ _) hM rfl
    · intro w' hR hM
      rintro _ rfl
      rintro _ rfl
      rintro _ rfl
      rintro _ rfl
      rintro _ rfl
      rintro _ rfl
      rintro _ rfl
      rintro _ rfl
      rintro _ rfl
      rintro _ rfl
      rintro _ rfl
      rintro _ rfl
      rintro _ hFX
      rintro _ rfl
    --END
    --END
      dsimp only [EndAll, Act.put]
      simp only [List.setIfInBounds_toArray, List.set_cons_zero, List.set_cons_succ]
      obtain ⟨w4, rfl⟩ : ∃ z, z = w' := ⟨_, rfl⟩
      obtain ⟨u4, zI, ho4, rz⟩ := hFX
      have HW4 := Lib.hid (up_grown HW.out hR.grown (fun k hk => by injection hk with hk; omega))
      have HO4 := Lib.hid (own_base ho4 hqB)
      clear WD hR hM HM0
      obtain ⟨A4, c4, rfl, -, -⟩ := (RdL.of_own (f := moC) (bs := ms) ho4).form
      have zc := zI.1
      go_wp2_with fail
      refine bodyPost_ret (v := .tuple #[.agg #[S s, .int .i64 q, S cl, .slice A4 ms.length c4, .int .i64 pa], .bool true]) (by simp [results, Tryz.results19, go_sem, zc]) rfl ⟨.slice A4 ms.length c4, by rw [HN.out] <;> rfl, by rw [HN.out]; exact HO4.out, HW4.out⟩

end Go.Proofs.YtbjlkdenkmbepaaGreatDoor

namespace Go.Proofs.YtbjlkdenkmbepaaGreatDoor
open Go.RowKit
set_option linter.unusedVariables false
set_option linter.unusedSimpArgs false

set_option maxRecDepth 100000 in
set_option maxHeartbeats 1000000 in
theorem sdo_undo (e : Es) (o : List (List UInt8)) (v : Value) (a : List UInt8) (w : World) (h : RdM w v e.ms) (hin : EdIn e o) (hnm : a = [117, 110, 100, 111]) :
    Calls Tryz.prog 19 #[edW e v, S a] w (EdOut w.heap.size (edDo e o .undo) e w) := by
  have HS := Lib.hid (fun (j : Nat) (hj : j < a.length) => ne32 (a := a) (by rw [hnm]; decide) hj)
  have n0 : (a == [112, 117, 116]) = false := by rw [hnm]; rfl
  have n1 : (a == [108, 105, 110, 101]) = false := by rw [hnm]; rfl
  have n2 : (a == [99, 117, 116]) = false := by rw [hnm]; rfl
  have n3 : (a == [112, 97, 115, 116, 101]) = false := by rw [hnm]; rfl
  have n4 : (a == [114, 105, 103, 104, 116]) = false := by rw [hnm]; rfl
  have n5 : (a == [108, 101, 102, 116]) = false := by rw [hnm]; rfl
  have n6 : (a == [102, 105, 110, 100]) = false := by rw [hnm]; rfl
  have n7 : (a == [114, 117, 110]) = false := by rw [hnm]; rfl
  have n8 : (a == [117, 110, 100, 111]) = true := by rw [hnm]; rfl
  have hal : a.length ≤ 10 := by rw [hnm]; decide
  clear hnm
  have hsl := tv_len hin.g.t
  have hn30 := hin.g.n30
  have hcl := tv_len hin.c
  have hok := hin.ok
  have OW := Lib.hid (fun (w' : World) (hb : Below w.heap.size w w') => l1OwnEditor_any v e.ms e.pa e.s e.x e.cl w' (h.up hb) (by omega))
  have EV := Lib.hid (fun (u : Value) (w' : World) (h' : RdM w' u e.ms) => (specEditorValid_any u e.ms e.pa e.s e.x e.cl w' h' (by omega) (by unfold maxLen; omega) (by unfold maxLen; omega)).mono fun en w2 ⟨ok, h1, h2, h3⟩ => (show en = Ending.returned (.bool true) ∧ Below w'.heap.size w' w2 from ⟨by rw [h1, h2.2 hok], h3⟩))
  have HP := Lib.hid h.2
  unfold EdOwn at OW
  obtain ⟨kk, hk⟩ : ∃ kk : Nat, e.pa = kk := ⟨e.pa.toNat, by have := hin.g.a0; omega⟩
  have hg := hin.g
  rw [hk] at hg
  have HB := Lib.hid (fun (u : Value) (w' : World) (h' : RdM w' u e.ms) => specHistoryBack_yes u e.ms kk e.s w' o h' hg)
  have HR := Lib.hid (show edDo e o .undo = edTo e o ((e.ms.getD kk m0).par) by show edTo e o ((e.ms.getD e.pa.toNat m0).par) = _; rw [hk, Int.toNat_natCast])
  generalize ((e.ms.getD kk m0).par) = q at *
  have HN1 := Lib.hid (show inB q 0 ((e.ms.length : Int) - 1) = false → edDo e o .undo = none from fun h => by rw [HR.out]; unfold edTo; rw [h]; rfl)
  have HN2 := Lib.hid (show inB q 0 ((e.ms.length : Int) - 1) = true → edDo e o .undo = some ⟨toText e.ms.length o e.s q, min e.x (toText e.ms.length o e.s q).length, e.cl, e.ms, toAt e.ms.length kk q⟩ from fun h => by rw [HR.out]; unfold edTo toText toAt; rw [if_pos h, if_pos h, if_pos h])
  clear HR hg
  unfold HRes at HB
  generalize toText e.ms.length o e.s q = t2 at *
  generalize toAt e.ms.length (kk : Int) q = a2 at *
  generalize inB q 0 ((e.ms.length : Int) - 1) = ok at *
  generalize edDo e o .undo = R at *
  obtain ⟨s, x, cl, ms, pa⟩ := e
  simp only at *
  subst hk
  unfold EdOut
  obtain ⟨A, k, rfl, _, _⟩ := h.1.form
  unfold edW
  unfold edAgg at OW EV ⊢
  clear h hin hok
  go_enter Tryz.func19, Tryz.ntmps19
  go_wp2_with fail
  refine (OW.out _ (by exact bBel)).mono ?_
  rintro en w1 ⟨u, rfl, ho, hb⟩
  have xc : ∀ o, w1.cell? ⟨w.heap.size, o, none⟩ = #[S s, .int .i64 x, S cl, .slice A ms.length k, .int .i64 (kk : Int)][o]? := (fun o => (hb.cell (p := ⟨w.heap.size, o, none⟩) (by simp <;> omega)).trans (by simp [go_sem])); have xf : ∀ o, w1.frozen? ⟨w.heap.size, o, none⟩ = false := (fun o => (hb.frozen (p := ⟨w.heap.size, o, none⟩) (by simp <;> omega)).trans (by simp [go_sem])); have xz : w.heap.size < w1.heap.size := (by have := hb.size; (try simp at this); omega); have xy := xz
  have zc : ∀ o, w1.cell? ⟨w.heap.size + 1, o, none⟩ = #[S [], .int .i64 0, S [], .slice none 0 0, .int .i64 0][o]? := (fun o => (hb.cell (p := ⟨w.heap.size + 1, o, none⟩) (by simp <;> omega)).trans (by simp [go_sem])); have zf : ∀ o, w1.frozen? ⟨w.heap.size + 1, o, none⟩ = false := (fun o => (hb.frozen (p := ⟨w.heap.size + 1, o, none⟩) (by simp <;> omega)).trans (by simp [go_sem])); have zz : w.heap.size + 1 < w1.heap.size := (by have := hb.size; (try simp at this); omega); have zy := zz
  have hW : Below w.heap.size w w1 := by exact bBel
  have HO1 := Lib.hid (own_base ho (show w.heap.size + 2 ≤ _ by simp))
  obtain ⟨UA, UC, rfl, -, -⟩ := (RdL.of_own (f := moC) (bs := ms) ho).form
  have HW := Lib.hid hW
  clear hb ho OW hW xy zy
  go_upto_region 2 with (fail)
  obtain ⟨W2, hw⟩ : ∃ q, q = ((((w1.setCell ⟨w.heap.size, 0, none⟩ (S s)).setCell ⟨w.heap.size, 1, none⟩ (.int .i64 x)).setCell ⟨w.heap.size, 2, none⟩ (S cl)).setCell ⟨w.heap.size, 3, none⟩ (.slice UA ms.length UC)).setCell ⟨w.heap.size, 4, none⟩ (.int .i64 (kk : Int)) := ⟨_, rfl⟩
  rw [← hw]
  have xI : Is W2 w.heap.size #[S s, .int .i64 x, S cl, .slice UA ms.length UC, .int .i64 (kk : Int)] := by rw [hw]; exact is_all5 ⟨xc, xf⟩ _ _ _ _ _
  have zI : Is W2 (w.heap.size + 1) #[S [], .int .i64 0, S [], .slice none 0 0, .int .i64 0] := by rw [hw]; exact is_far5 ⟨zc, zf⟩ (by omega) _ _ _ _ _
  have hB2 : Below w.heap.size w1 W2 := by
    rw [hw]
    have hQ := Below.refl w.heap.size w1
    (repeat refine Below.setCell ?_ (by first | exact Nat.le_refl _ | (simp; done) | (simp; omega)) _)
    exact hQ
  have HO2 := Lib.hid (show OwnM W2 (w.heap.size + 2) (.slice UA ms.length UC) ms by rw [hw]; exact own_all5 HO1.out (by omega) _ _ _ _ _)
  have xz2 : w.heap.size < W2.heap.size := Nat.lt_of_lt_of_le xz hB2.size
  have zz2 : w.heap.size + 1 < W2.heap.size := Nat.lt_of_lt_of_le zz hB2.size
  have HW2 := Lib.hid (show Below w.heap.size w W2 from HW.out.trans hB2)
  have xc2 := xI.1
  clear hw hB2 HO1 HW xc xf xz zc zf zz
  go_wp2_with fail
  refine (EV.out _ _ ⟨RdL.of_own HO2.out, HP.out⟩).mono ?_
  rintro en w3 ⟨rfl, hb⟩
  replace xI := xI.up xz2 hb
  replace zI := zI.up zz2 hb
  have xz := Nat.lt_of_lt_of_le xz2 hb.size
  have zz := Nat.lt_of_lt_of_le zz2 hb.size
  have HO := Lib.hid (own_up HO2.out hb)
  have HW := Lib.hid (up_trans HW2.out hb)
  have XI := Lib.hid xI
  have ZI := Lib.hid zI
  have xc := xI.1
  have xf := xI.2
  have zc := zI.1
  have zf := zI.2
  clear hb EV HO2 HW2 xI zI xc2 xz2 zz2
  go_wp2_with fail
  go_loop [6, 7, 8] (fun nm rs i => ∃ j : Nat, j ≤ a.length ∧ nm = S a ∧ rs = S [] ∧ i = .int .i64 j) (fun _ _ i => a.length - (intOf i).toNat)
  case atStart => exact ⟨0, Nat.zero_le _, rfl, rfl, rfl⟩
  case round =>
    obtain ⟨j, hj, rfl, rfl, rfl⟩ := hrel
    have i0 : (0 : Int) ≤ (j : Int) := by omega
    by_cases hlt : j < a.length
    · have i2 : (j : Int) < (a.length : Int) := by omega
      have d0 := HS.out j hlt
      go_wp2_with fail
      go_round
      case rel => exact ⟨j + 1, by omega, rfl, rfl, by go_num⟩
      case measure => simp [intOf]; omega
    obtain rfl : j = a.length := by omega
    have i2 : ¬ (a.length : Int) < (a.length : Int) := by omega
    clear hlt hj HS
    go_wp2_with fail
    refine (HB.out _ _ ⟨RdL.of_own HO.out, HP.out⟩).mono ?_
    rintro en w4 ⟨u4, rfl, ho4, hb⟩
    obtain ⟨A4, c4, rfl, -, -⟩ := (RdL.of_own (f := moC) (bs := ms) ho4).form
    have HO4 := Lib.hid (own_base ho4 (show w.heap.size + 2 ≤ w3.heap.size by omega))
    replace XI := Lib.hid (XI.out.up xz hb)
    replace ZI := Lib.hid (ZI.out.up zz hb)
    replace HO := Lib.hid (own_up HO.out hb)
    replace HW := Lib.hid (up_trans HW.out hb)
    replace xz := Nat.lt_of_lt_of_le xz hb.size
    replace zz := Nat.lt_of_lt_of_le zz hb.size
    replace xc := XI.out.1
    replace xf := XI.out.2
    replace zc := ZI.out.1
    replace zf := ZI.out.2
    clear hb
    clear HB ho4
    rcases ok with _ | _
    · have HN := Lib.hid (HN1.out rfl)
      clear HN1 HN2
      go_upto_region 41 with (fail)
      obtain ⟨W5, hw⟩ : ∃ q, q = w4.alloc (.cells #[.slice A4 ms.length c4, .int .i64 a2] 25) := ⟨_, rfl⟩
      rw [← hw]
      have hb : Below w4.heap.size w4 W5 := by rw [hw]; exact up_alloc (Below.refl _ _) _
      replace XI := Lib.hid (XI.out.up xz hb)
      replace ZI := Lib.hid (ZI.out.up zz hb)
      replace HO := Lib.hid (own_up HO.out hb)
      replace HW := Lib.hid (up_trans HW.out hb)
      replace xz := Nat.lt_of_lt_of_le xz hb.size
      replace zz := Nat.lt_of_lt_of_le zz hb.size
      replace xc := XI.out.1
      replace xf := XI.out.2
      replace zc := ZI.out.1
      replace zf := ZI.out.2
      clear hb
      clear hw HO4
      go_wp2_with fail
      have hrB : w.heap.size + 1 < w.heap.size + 2 := by omega
      refine bodyPost_ret (v := .tuple #[.agg #[S s, .int .i64 x, S cl, .slice UA ms.length UC, .int .i64 (kk : Int)], .bool false]) (by simp [results, Tryz.results19, go_sem, zc]) rfl ⟨.slice UA ms.length UC, by rw [HN.out]; rfl, ?_, ?_⟩
      · rw [HN.out]
        exact own_base (own_all5 HO.out hrB _ _ _ _ _) (by omega)
      · have hQ := HW.out
        (repeat refine up_set ?_ _ _ (by first | exact Nat.le_refl _ | (simp; done) | (simp; omega) | omega))
        exact hQ
    · have HN := Lib.hid (HN2.out rfl)
      clear HN1 HN2
      go_upto_region 42 with (fail)
      obtain ⟨W5, hw⟩ : ∃ q, q = w4.alloc (.cells #[.slice A4 ms.length c4, .int .i64 a2] 25) := ⟨_, rfl⟩
      rw [← hw]
      have hb : Below w4.heap.size w4 W5 := by rw [hw]; exact up_alloc (Below.refl _ _) _
      have hc := (show Is W5 w4.heap.size #[.slice A4 ms.length c4, .int .i64 a2] by rw [hw]; exact new_is w4 _ _).1
      have HO5 := Lib.hid (own_up HO4.out hb)
      replace XI := Lib.hid (XI.out.up xz hb)
      replace ZI := Lib.hid (ZI.out.up zz hb)
      replace HO := Lib.hid (own_up HO.out hb)
      replace HW := Lib.hid (up_trans HW.out hb)
      replace xz := Nat.lt_of_lt_of_le xz hb.size
      replace zz := Nat.lt_of_lt_of_le zz hb.size
      replace xc := XI.out.1
      replace xf := XI.out.2
      replace zc := ZI.out.1
      replace zf := ZI.out.2
      clear hb
      clear hw HO4
      have hrB : w.heap.size + 1 < w.heap.size + 2 := by omega
      go_wp2_with fail
      refine bodyPost_ret (v := .tuple #[.agg #[S t2, .int .i64 (min x (t2.length : Int)), S cl, .slice A4 ms.length c4, .int .i64 a2], .bool true]) (by simp [results, Tryz.results19, go_sem, zc]) rfl ⟨.slice A4 ms.length c4, by rw [HN.out] <;> rfl, ?_, ?_⟩
      · rw [HN.out]
        exact own_base (own_all5 HO5.out hrB _ _ _ _ _) (by omega)
      · have hQ := HW.out
        (repeat refine up_set ?_ _ _ (by first | exact Nat.le_refl _ | (simp; done) | (simp; omega) | omega))
        exact hQ
set_option maxRecDepth 100000 in
set_option maxHeartbeats 1000000 in
theorem sdo_redo (e : Es) (o : List (List UInt8)) (v : Value) (a : List UInt8) (w : World) (h : RdM w v e.ms) (hin : EdIn e o) (hnm : a = [114, 101, 100, 111]) :
    Calls Tryz.prog 19 #[edW e v, S a] w (EdOut w.heap.size (edDo e o .redo) e w) := by
  have HS := Lib.hid (fun (j : Nat) (hj : j < a.length) => ne32 (a := a) (by rw [hnm]; decide) hj)
  have n0 : (a == [112, 117, 116]) = false := by rw [hnm]; rfl
  have n1 : (a == [108, 105, 110, 101]) = false := by rw [hnm]; rfl
  have n2 : (a == [99, 117, 116]) = false := by rw [hnm]; rfl
  have n3 : (a == [112, 97, 115, 116, 101]) = false := by rw [hnm]; rfl
  have n4 : (a == [114, 105, 103, 104, 116]) = false := by rw [hnm]; rfl
  have n5 : (a == [108, 101, 102, 116]) = false := by rw [hnm]; rfl
  have n6 : (a == [102, 105, 110, 100]) = false := by rw [hnm]; rfl
  have n7 : (a == [114, 117, 110]) = false := by rw [hnm]; rfl
  have n8 : (a == [117, 110, 100, 111]) = false := by rw [hnm]; rfl
  have n9 : (a == [114, 101, 100, 111]) = true := by rw [hnm]; rfl
  have hal : a.length ≤ 10 := by rw [hnm]; decide
  clear hnm
  have hsl := tv_len hin.g.t
  have hn30 := hin.g.n30
  have hcl := tv_len hin.c
  have hok := hin.ok
  have OW := Lib.hid (fun (w' : World) (hb : Below w.heap.size w w') => l1OwnEditor_any v e.ms e.pa e.s e.x e.cl w' (h.up hb) (by omega))
  have EV := Lib.hid (fun (u : Value) (w' : World) (h' : RdM w' u e.ms) => (specEditorValid_any u e.ms e.pa e.s e.x e.cl w' h' (by omega) (by unfold maxLen; omega) (by unfold maxLen; omega)).mono fun en w2 ⟨ok, h1, h2, h3⟩ => (show en = Ending.returned (.bool true) ∧ Below w'.heap.size w' w2 from ⟨by rw [h1, h2.2 hok], h3⟩))
  have HP := Lib.hid h.2
  unfold EdOwn at OW
  obtain ⟨kk, hk⟩ : ∃ kk : Nat, e.pa = kk := ⟨e.pa.toNat, by have := hin.g.a0; omega⟩
  have hg := hin.g
  rw [hk] at hg
  have HB := Lib.hid (fun (u : Value) (w' : World) (h' : RdM w' u e.ms) => specHistoryForth_yes u e.ms kk e.s w' o h' hg)
  have HR := Lib.hid (show edDo e o .redo = edTo e o (foTo e.ms kk e.ms.length) by show edTo e o (foTo e.ms e.pa e.ms.length) = _; rw [hk])
  generalize (foTo e.ms kk e.ms.length) = q at *
  have HN1 := Lib.hid (show inB q 0 ((e.ms.length : Int) - 1) = false → edDo e o .redo = none from fun h => by rw [HR.out]; unfold edTo; rw [h]; rfl)
  have HN2 := Lib.hid (show inB q 0 ((e.ms.length : Int) - 1) = true → edDo e o .redo = some ⟨toText e.ms.length o e.s q, min e.x (toText e.ms.length o e.s q).length, e.cl, e.ms, toAt e.ms.length kk q⟩ from fun h => by rw [HR.out]; unfold edTo toText toAt; rw [if_pos h, if_pos h, if_pos h])
  clear HR hg
  unfold HRes at HB
  generalize toText e.ms.length o e.s q = t2 at *
  generalize toAt e.ms.length (kk : Int) q = a2 at *
  generalize inB q 0 ((e.ms.length : Int) - 1) = ok at *
  generalize edDo e o .redo = R at *
  obtain ⟨s, x, cl, ms, pa⟩ := e
  simp only at *
  subst hk
  unfold EdOut
  obtain ⟨A, k, rfl, _, _⟩ := h.1.form
  unfold edW
  unfold edAgg at OW EV ⊢
  clear h hin hok
  go_enter Tryz.func19, Tryz.ntmps19
  go_wp2_with fail
  refine (OW.out _ (by exact bBel)).mono ?_
  rintro en w1 ⟨u, rfl, ho, hb⟩
  have xc : ∀ o, w1.cell? ⟨w.heap.size, o, none⟩ = #[S s, .int .i64 x, S cl, .slice A ms.length k, .int .i64 (kk : Int)][o]? := (fun o => (hb.cell (p := ⟨w.heap.size, o, none⟩) (by simp <;> omega)).trans (by simp [go_sem])); have xf : ∀ o, w1.frozen? ⟨w.heap.size, o, none⟩ = false := (fun o => (hb.frozen (p := ⟨w.heap.size, o, none⟩) (by simp <;> omega)).trans (by simp [go_sem])); have xz : w.heap.size < w1.heap.size := (by have := hb.size; (try simp at this); omega); have xy := xz
  have zc : ∀ o, w1.cell? ⟨w.heap.size + 1, o, none⟩ = #[S [], .int .i64 0, S [], .slice none 0 0, .int .i64 0][o]? := (fun o => (hb.cell (p := ⟨w.heap.size + 1, o, none⟩) (by simp <;> omega)).trans (by simp [go_sem])); have zf : ∀ o, w1.frozen? ⟨w.heap.size + 1, o, none⟩ = false := (fun o => (hb.frozen (p := ⟨w.heap.size + 1, o, none⟩) (by simp <;> omega)).trans (by simp [go_sem])); have zz : w.heap.size + 1 < w1.heap.size := (by have := hb.size; (try simp at this); omega); have zy := zz
  have hW : Below w.heap.size w w1 := by exact bBel
  have HO1 := Lib.hid (own_base ho (show w.heap.size + 2 ≤ _ by simp))
  obtain ⟨UA, UC, rfl, -, -⟩ := (RdL.of_own (f := moC) (bs := ms) ho).form
  have HW := Lib.hid hW
  clear hb ho OW hW xy zy
  go_upto_region 2 with (fail)
  obtain ⟨W2, hw⟩ : ∃ q, q = ((((w1.setCell ⟨w.heap.size, 0, none⟩ (S s)).setCell ⟨w.heap.size, 1, none⟩ (.int .i64 x)).setCell ⟨w.heap.size, 2, none⟩ (S cl)).setCell ⟨w.heap.size, 3, none⟩ (.slice UA ms.length UC)).setCell ⟨w.heap.size, 4, none⟩ (.int .i64 (kk : Int)) := ⟨_, rfl⟩
  rw [← hw]
  have xI : Is W2 w.heap.size #[S s, .int .i64 x, S cl, .slice UA ms.length UC, .int .i64 (kk : Int)] := by rw [hw]; exact is_all5 ⟨xc, xf⟩ _ _ _ _ _
  have zI : Is W2 (w.heap.size + 1) #[S [], .int .i64 0, S [], .slice none 0 0, .int .i64 0] := by rw [hw]; exact is_far5 ⟨zc, zf⟩ (by omega) _ _ _ _ _
  have hB2 : Below w.heap.size w1 W2 := by
    rw [hw]
    have hQ := Below.refl w.heap.size w1
    (repeat refine Below.setCell ?_ (by first | exact Nat.le_refl _ | (simp; done) | (simp; omega)) _)
    exact hQ
  have HO2 := Lib.hid (show OwnM W2 (w.heap.size + 2) (.slice UA ms.length UC) ms by rw [hw]; exact own_all5 HO1.out (by omega) _ _ _ _ _)
  have xz2 : w.heap.size < W2.heap.size := Nat.lt_of_lt_of_le xz hB2.size
  have zz2 : w.heap.size + 1 < W2.heap.size := Nat.lt_of_lt_of_le zz hB2.size
  have HW2 := Lib.hid (show Below w.heap.size w W2 from HW.out.trans hB2)
  have xc2 := xI.1
  clear hw hB2 HO1 HW xc xf xz zc zf zz
  go_wp2_with fail
  refine (EV.out _ _ ⟨RdL.of_own HO2.out, HP.out⟩).mono ?_
  rintro en w3 ⟨rfl, hb⟩
  replace xI := xI.up xz2 hb
  replace zI := zI.up zz2 hb
  have xz := Nat.lt_of_lt_of_le xz2 hb.size
  have zz := Nat.lt_of_lt_of_le zz2 hb.size
  have HO := Lib.hid (own_up HO2.out hb)
  have HW := Lib.hid (up_trans HW2.out hb)
  have XI := Lib.hid xI
  have ZI := Lib.hid zI
  have xc := xI.1
  have xf := xI.2
  have zc := zI.1
  have zf := zI.2
  clear hb EV HO2 HW2 xI zI xc2 xz2 zz2
  go_wp2_with fail
  go_loop [6, 7, 8] (fun nm rs i => ∃ j : Nat, j ≤ a.length ∧ nm = S a ∧ rs = S [] ∧ i = .int .i64 j) (fun _ _ i => a.length - (intOf i).toNat)
  case atStart => exact ⟨0, Nat.zero_le _, rfl, rfl, rfl⟩
  case round =>
    obtain ⟨j, hj, rfl, rfl, rfl⟩ := hrel
    have i0 : (0 : Int) ≤ (j : Int) := by omega
    by_cases hlt : j < a.length
    · have i2 : (j : Int) < (a.length : Int) := by omega
      have d0 := HS.out j hlt
      go_wp2_with fail
      go_round
      case rel => exact ⟨j + 1, by omega, rfl, rfl, by go_num⟩
      case measure => simp [intOf]; omega
    obtain rfl : j = a.length := by omega
    have i2 : ¬ (a.length : Int) < (a.length : Int) := by omega
    clear hlt hj HS
    go_wp2_with fail
    refine (HB.out _ _ ⟨RdL.of_own HO.out, HP.out⟩).mono ?_
    rintro en w4 ⟨u4, rfl, ho4, hb⟩
    obtain ⟨A4, c4, rfl, -, -⟩ := (RdL.of_own (f := moC) (bs := ms) ho4).form
    have HO4 := Lib.hid (own_base ho4 (show w.heap.size + 2 ≤ w3.heap.size by omega))
    replace XI := Lib.hid (XI.out.up xz hb)
    replace ZI := Lib.hid (ZI.out.up zz hb)
    replace HO := Lib.hid (own_up HO.out hb)
    replace HW := Lib.hid (up_trans HW.out hb)
    replace xz := Nat.lt_of_lt_of_le xz hb.size
    replace zz := Nat.lt_of_lt_of_le zz hb.size
    replace xc := XI.out.1
    replace xf := XI.out.2
    replace zc := ZI.out.1
    replace zf := ZI.out.2
    clear hb
    clear HB ho4
    rcases ok with _ | _
    · have HN := Lib.hid (HN1.out rfl)
      clear HN1 HN2
      go_upto_region 46 with (fail)
      obtain ⟨W5, hw⟩ : ∃ q, q = w4.alloc (.cells #[.slice A4 ms.length c4, .int .i64 a2] 25) := ⟨_, rfl⟩
      rw [← hw]
      have hb : Below w4.heap.size w4 W5 := by rw [hw]; exact up_alloc (Below.refl _ _) _
      replace XI := Lib.hid (XI.out.up xz hb)
      replace ZI := Lib.hid (ZI.out.up zz hb)
      replace HO := Lib.hid (own_up HO.out hb)
      replace HW := Lib.hid (up_trans HW.out hb)
      replace xz := Nat.lt_of_lt_of_le xz hb.size
      replace zz := Nat.lt_of_lt_of_le zz hb.size
      replace xc := XI.out.1
      replace xf := XI.out.2
      replace zc := ZI.out.1
      replace zf := ZI.out.2
      clear hb
      clear hw HO4
      go_wp2_with fail
      have hrB : w.heap.size + 1 < w.heap.size + 2 := by omega
      refine bodyPost_ret (v := .tuple #[.agg #[S s, .int .i64 x, S cl, .slice UA ms.length UC, .int .i64 (kk : Int)], .bool false]) (by simp [results, Tryz.results19, go_sem, zc]) rfl ⟨.slice UA ms.length UC, by rw [HN.out]; rfl, ?_, ?_⟩
      · rw [HN.out]
        exact own_base (own_all5 HO.out hrB _ _ _ _ _) (by omega)
      · have hQ := HW.out
        (repeat refine up_set ?_ _ _ (by first | exact Nat.le_refl _ | (simp; done) | (simp; omega) | omega))
        exact hQ
    · have HN := Lib.hid (HN2.out rfl)
      clear HN1 HN2
      go_upto_region 47 with (fail)
      obtain ⟨W5, hw⟩ : ∃ q, q = w4.alloc (.cells #[.slice A4 ms.length c4, .int .i64 a2] 25) := ⟨_, rfl⟩
      rw [← hw]
      have hb : Below w4.heap.size w4 W5 := by rw [hw]; exact up_alloc (Below.refl _ _) _
      have hc := (show Is W5 w4.heap.size #[.slice A4 ms.length c4, .int .i64 a2] by rw [hw]; exact new_is w4 _ _).1
      have HO5 := Lib.hid (own_up HO4.out hb)
      replace XI := Lib.hid (XI.out.up xz hb)
      replace ZI := Lib.hid (ZI.out.up zz hb)
      replace HO := Lib.hid (own_up HO.out hb)
      replace HW := Lib.hid (up_trans HW.out hb)
      replace xz := Nat.lt_of_lt_of_le xz hb.size
      replace zz := Nat.lt_of_lt_of_le zz hb.size
      replace xc := XI.out.1
      replace xf := XI.out.2
      replace zc := ZI.out.1
      replace zf := ZI.out.2
      clear hb
      clear hw HO4
      have hrB : w.heap.size + 1 < w.heap.size + 2 := by omega
      go_wp2_with fail
      refine bodyPost_ret (v := .tuple #[.agg #[S t2, .int .i64 (min x (t2.length : Int)), S cl, .slice A4 ms.length c4, .int .i64 a2], .bool true]) (by simp [results, Tryz.results19, go_sem, zc]) rfl ⟨.slice A4 ms.length c4, by rw [HN.out] <;> rfl, ?_, ?_⟩
      · rw [HN.out]
        exact own_base (own_all5 HO5.out hrB _ _ _ _ _) (by omega)
      · have hQ := HW.out
        (repeat refine up_set ?_ _ _ (by first | exact Nat.le_refl _ | (simp; done) | (simp; omega) | omega))
        exact hQ

end Go.Proofs.YtbjlkdenkmbepaaGreatDoor
