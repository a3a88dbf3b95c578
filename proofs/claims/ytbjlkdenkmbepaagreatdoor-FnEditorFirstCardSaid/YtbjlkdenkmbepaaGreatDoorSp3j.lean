/- What is proved here: contracts of the reference's EditorDo at undo and redo. No condition. -/
import Derived.Test.YtbjlkdenkmbepaaGreatDoorSp2
import Derived.Test.YtbjlkdenkmbepaaGreatDoorHistE
import Derived.Test.YtbjlkdenkmbepaaGreatDoorHistJ
import Derived.BigRegion
import Derived.Deep.Cut
import Derived.BigQuiet
namespace Go.Proofs.YtbjlkdenkmbepaaGreatDoor
open Go.RowKit
set_option linter.unusedVariables false
set_option linter.unusedSimpArgs false

set_option maxRecDepth 100000 in
set_option maxHeartbeats 1000000 in
theorem sdo_undo (e : Es) (o : List (List UInt8)) (v : Value) (a : List UInt8) (w : World) (h : RdM w v e.ms) (hin : EdIn e o) (hnm : a = [117, 110, 100, 111]) :
    Calls Tryz.prog 19 #[edW e v, S a] w (EdOut w.heap.size (edDo e o .undo) e w) := by
  have HS := Lib.hid (fun (j : Nat) (hj : j < a.length) => ne32 (a := a) (by rw [hnm]; decide) hj)
  have n0 : (a == [112, 117, 116]) = false := by rw [hnm]; rfl
  have n1 : (a == [108, 105, 110, 101]) = false := by rw [hnm]; rfl
  have n2 : (a == [99, 117, 116]) = false := by rw [hnm]; rfl
  have n3 : (a == [112, 97, 115, 116, 101]) = false := by rw [hnm]; rfl
  have n4 : (a == [114, 105, 103, 104, 116]) = false := by rw [hnm]; rfl
  have n5 : (a == [108, 101, 102, 116]) = false := by rw [hnm]; rfl
  have n6 : (a == [102, 105, 110, 100]) = false := by rw [hnm]; rfl
  have n7 : (a == [114, 117, 110]) = false := by rw [hnm]; rfl
  have n8 : (a == [117, 110, 100, 111]) = true := by rw [hnm]; rfl
  have hal : a.length ≤ 10 := by rw [hnm]; decide
  clear hnm
  have hsl := tv_len hin.g.t
  have hn30 := hin.g.n30
  have hcl := tv_len hin.c
  have hok := hin.ok
  have OW := Lib.hid (fun (w' : World) (hb : Below w.heap.size w w') => l1OwnEditor_any v e.ms e.pa e.s e.x e.cl w' (h.up hb) (by omega))
  have EV := Lib.hid (fun (u : Value) (w' : World) (h' : RdM w' u e.ms) => (specEditorValid_any u e.ms e.pa e.s e.x e.cl w' h' (by omega) (by unfold maxLen; omega) (by unfold maxLen; omega)).mono fun en w2 ⟨ok, h1, h2, h3⟩ => (show en = Ending.returned (.bool true) ∧ Below w'.heap.size w' w2 from ⟨by rw [h1, h2.2 hok], h3⟩))
  have HP := Lib.hid h.2
  unfold EdOwn at OW
  obtain ⟨kk, hk⟩ : ∃ kk : Nat, e.pa = kk := ⟨e.pa.toNat, by have := hin.g.a0; omega⟩
  have hg := hin.g
  rw [hk] at hg
  have HB := Lib.hid (fun (u : Value) (w' : World) (h' : RdM w' u e.ms) => specHistoryBack_yes u e.ms kk e.s w' o h' hg)
  have HR := Lib.hid (show edDo e o .undo = edTo e o ((e.ms.getD kk m0).par) by show edTo e o ((e.ms.getD e.pa.toNat m0).par) = _; rw [hk, Int.toNat_natCast])
  generalize ((e.ms.getD kk m0).par) = q at *
  have HN1 := Lib.hid (show inB q 0 ((e.ms.length : Int) - 1) = false → edDo e o .undo = none from fun h => by rw [HR.out]; unfold edTo; rw [h]; rfl)
  have HN2 := Lib.hid (show inB q 0 ((e.ms.length : Int) - 1) = true → edDo e o .undo = some ⟨toText e.ms.length o e.s q, min e.x (toText e.ms.length o e.s q).length, e.cl, e.ms, toAt e.ms.length kk q⟩ from fun h => by rw [HR.out]; unfold edTo toText toAt; rw [if_pos h, if_pos h, if_pos h])
  clear HR hg
  unfold HRes at HB
  generalize toText e.ms.length o e.s q = t2 at *
  generalize toAt e.ms.length (kk : Int) q = a2 at *
  generalize inB q 0 ((e.ms.length : Int) - 1) = ok at *
  generalize edDo e o .undo = R at *
  obtain ⟨s, x, cl, ms, pa⟩ := e
  simp only at *
  subst hk
  unfold EdOut
  obtain ⟨A, k, rfl, _, _⟩ := h.1.form
  unfold edW
  unfold edAgg at OW EV ⊢
  clear h hin hok
  go_enter Tryz.func19, Tryz.ntmps19
  go_wp2_with fail
  refine (OW.out _ (by (repeat (first | exact Below.refl _ _ | assumption | refine Below.drew ?_ | refine up_drewN ?_ _ | refine up_alloc ?_ _ | refine up_set ?_ _ _ (by first | exact Nat.le_refl _ | (simp; done) | (simp; omega) | omega) | refine up_trans ?_ (by assumption))))).mono ?_
  rintro en w1 ⟨u, rfl, ho, hb⟩
  have xc : ∀ o, w1.cell? ⟨w.heap.size, o, none⟩ = #[S s, .int .i64 x, S cl, .slice A ms.length k, .int .i64 (kk : Int)][o]? := (fun o => (hb.cell (p := ⟨w.heap.size, o, none⟩) (by simp <;> omega)).trans (by simp [go_sem])); have xf : ∀ o, w1.frozen? ⟨w.heap.size, o, none⟩ = false := (fun o => (hb.frozen (p := ⟨w.heap.size, o, none⟩) (by simp <;> omega)).trans (by simp [go_sem])); have xz : w.heap.size < w1.heap.size := (by have := hb.size; (try simp at this); omega); have xy := xz
  have zc : ∀ o, w1.cell? ⟨w.heap.size + 1, o, none⟩ = #[S [], .int .i64 0, S [], .slice none 0 0, .int .i64 0][o]? := (fun o => (hb.cell (p := ⟨w.heap.size + 1, o, none⟩) (by simp <;> omega)).trans (by simp [go_sem])); have zf : ∀ o, w1.frozen? ⟨w.heap.size + 1, o, none⟩ = false := (fun o => (hb.frozen (p := ⟨w.heap.size + 1, o, none⟩) (by simp <;> omega)).trans (by simp [go_sem])); have zz : w.heap.size + 1 < w1.heap.size := (by have := hb.size; (try simp at this); omega); have zy := zz
  have hW : Below w.heap.size w w1 := by (repeat (first | exact Below.refl _ _ | assumption | refine Below.drew ?_ | refine up_drewN ?_ _ | refine up_alloc ?_ _ | refine up_set ?_ _ _ (by first | exact Nat.le_refl _ | (simp; done) | (simp; omega) | omega) | refine up_trans ?_ (by assumption)))
  have HO1 := Lib.hid (own_base ho (show w.heap.size + 2 ≤ _ by simp))
  obtain ⟨UA, UC, rfl, -, -⟩ := (RdL.of_own (f := moC) (bs := ms) ho).form
  have HW := Lib.hid hW
  clear hb ho OW hW xy zy
  go_upto_region 2 with (fail)
  obtain ⟨W2, hw⟩ : ∃ q, q = ((((w1.setCell ⟨w.heap.size, 0, none⟩ (S s)).setCell ⟨w.heap.size, 1, none⟩ (.int .i64 x)).setCell ⟨w.heap.size, 2, none⟩ (S cl)).setCell ⟨w.heap.size, 3, none⟩ (.slice UA ms.length UC)).setCell ⟨w.heap.size, 4, none⟩ (.int .i64 (kk : Int)) := ⟨_, rfl⟩
  rw [← hw]
  have xI : Is W2 w.heap.size #[S s, .int .i64 x, S cl, .slice UA ms.length UC, .int .i64 (kk : Int)] := by rw [hw]; exact is_all5 ⟨xc, xf⟩ _ _ _ _ _
  have zI : Is W2 (w.heap.size + 1) #[S [], .int .i64 0, S [], .slice none 0 0, .int .i64 0] := by rw [hw]; exact is_far5 ⟨zc, zf⟩ (by omega) _ _ _ _ _
  have hB2 : Below w.heap.size w1 W2 := by
    rw [hw]
    have hQ := Below.refl w.heap.size w1
    (repeat refine Below.setCell ?_ (by first | exact Nat.le_refl _ | (simp; done) | (simp; omega)) _)
    exact hQ
  have HO2 := Lib.hid (show OwnM W2 (w.heap.size + 2) (.slice UA ms.length UC) ms by rw [hw]; exact own_all5 HO1.out (by omega) _ _ _ _ _)
  have xz2 : w.heap.size < W2.heap.size := Nat.lt_of_lt_of_le xz hB2.size
  have zz2 : w.heap.size + 1 < W2.heap.size := Nat.lt_of_lt_of_le zz hB2.size
  have HW2 := Lib.hid (show Below w.heap.size w W2 from HW.out.trans hB2)
  have xc2 := xI.1
  clear hw hB2 HO1 HW xc xf xz zc zf zz
  go_wp2_with fail
  refine (EV.out _ _ ⟨RdL.of_own HO2.out, HP.out⟩).mono ?_
  rintro en w3 ⟨rfl, hb⟩
  replace xI := xI.up xz2 hb
  replace zI := zI.up zz2 hb
  have xz := Nat.lt_of_lt_of_le xz2 hb.size
  have zz := Nat.lt_of_lt_of_le zz2 hb.size
  have HO := Lib.hid (own_up HO2.out hb)
  have HW := Lib.hid (up_trans HW2.out hb)
  have XI := Lib.hid xI
  have ZI := Lib.hid zI
  have xc := xI.1
  have xf := xI.2
  have zc := zI.1
  have zf := zI.2
  clear hb EV HO2 HW2 xI zI xc2 xz2 zz2
  go_wp2_with fail
  go_loop [6, 7, 8] (fun nm rs i => ∃ j : Nat, j ≤ a.length ∧ nm = S a ∧ rs = S [] ∧ i = .int .i64 j) (fun _ _ i => a.length - (intOf i).toNat)
  case atStart => exact ⟨0, Nat.zero_le _, rfl, rfl, rfl⟩
  case round =>
    obtain ⟨j, hj, rfl, rfl, rfl⟩ := hrel
    have i0 : (0 : Int) ≤ (j : Int) := by omega
    by_cases hlt : j < a.length
    · have i2 : (j : Int) < (a.length : Int) := by omega
      have d0 := HS.out j hlt
      go_wp2_with fail
      go_round
      case rel => exact ⟨j + 1, by omega, rfl, rfl, by go_num⟩
      case measure => simp [intOf]; omega
    obtain rfl : j = a.length := by omega
    have i2 : ¬ (a.length : Int) < (a.length : Int) := by omega
    clear hlt hj HS
    go_wp2_with fail
    refine (HB.out _ _ ⟨RdL.of_own HO.out, HP.out⟩).mono ?_
    rintro en w4 ⟨u4, rfl, ho4, hb⟩
    obtain ⟨A4, c4, rfl, -, -⟩ := (RdL.of_own (f := moC) (bs := ms) ho4).form
    have HO4 := Lib.hid (own_base ho4 (show w.heap.size + 2 ≤ w3.heap.size by omega))
    replace XI := Lib.hid (XI.out.up xz hb)
    replace ZI := Lib.hid (ZI.out.up zz hb)
    replace HO := Lib.hid (own_up HO.out hb)
    replace HW := Lib.hid (up_trans HW.out hb)
    replace xz := Nat.lt_of_lt_of_le xz hb.size
    replace zz := Nat.lt_of_lt_of_le zz hb.size
    replace xc := XI.out.1
    replace xf := XI.out.2
    replace zc := ZI.out.1
    replace zf := ZI.out.2
    clear hb
    clear HB ho4
    rcases ok with _ | _
    · have HN := Lib.hid (HN1.out rfl)
      clear HN1 HN2
      go_upto_region 41 with (fail)
      obtain ⟨W5, hw⟩ : ∃ q, q = w4.alloc (.cells #[.slice A4 ms.length c4, .int .i64 a2] 25) := ⟨_, rfl⟩
      rw [← hw]
      have hb : Below w4.heap.size w4 W5 := by rw [hw]; exact up_alloc (Below.refl _ _) _
      replace XI := Lib.hid (XI.out.up xz hb)
      replace ZI := Lib.hid (ZI.out.up zz hb)
      replace HO := Lib.hid (own_up HO.out hb)
      replace HW := Lib.hid (up_trans HW.out hb)
      replace xz := Nat.lt_of_lt_of_le xz hb.size
      replace zz := Nat.lt_of_lt_of_le zz hb.size
      replace xc := XI.out.1
      replace xf := XI.out.2
      replace zc := ZI.out.1
      replace zf := ZI.out.2
      clear hb
      clear hw HO4
      go_wp2_with fail
      have hrB : w.heap.size + 1 < w.heap.size + 2 := by omega
      refine bodyPost_ret (v := .tuple #[.agg #[S s, .int .i64 x, S cl, .slice UA ms.length UC, .int .i64 (kk : Int)], .bool false]) (by simp [results, Tryz.results19, go_sem, zc]) rfl ⟨.slice UA ms.length UC, by rw [HN.out]; rfl, ?_, ?_⟩
      · rw [HN.out]
        exact own_base (own_all5 HO.out hrB _ _ _ _ _) (by omega)
      · have hQ := HW.out
        (repeat refine up_set ?_ _ _ (by first | exact Nat.le_refl _ | (simp; done) | (simp; omega) | omega))
        exact hQ
    · have HN := Lib.hid (HN2.out rfl)
      clear HN1 HN2
      go_upto_region 42 with (fail)
      obtain ⟨W5, hw⟩ : ∃ q, q = w4.alloc (.cells #[.slice A4 ms.length c4, .int .i64 a2] 25) := ⟨_, rfl⟩
      rw [← hw]
      have hb : Below w4.heap.size w4 W5 := by rw [hw]; exact up_alloc (Below.refl _ _) _
      have hc := (show Is W5 w4.heap.size #[.slice A4 ms.length c4, .int .i64 a2] by rw [hw]; exact new_is w4 _ _).1
      have HO5 := Lib.hid (own_up HO4.out hb)
      replace XI := Lib.hid (XI.out.up xz hb)
      replace ZI := Lib.hid (ZI.out.up zz hb)
      replace HO := Lib.hid (own_up HO.out hb)
      replace HW := Lib.hid (up_trans HW.out hb)
      replace xz := Nat.lt_of_lt_of_le xz hb.size
      replace zz := Nat.lt_of_lt_of_le zz hb.size
      replace xc := XI.out.1
      replace xf := XI.out.2
      replace zc := ZI.out.1
      replace zf := ZI.out.2
      clear hb
      clear hw HO4
      have hrB : w.heap.size + 1 < w.heap.size + 2 := by omega
      go_wp2_with fail
      refine bodyPost_ret (v := .tuple #[.agg #[S t2, .int .i64 (min x (t2.length : Int)), S cl, .slice A4 ms.length c4, .int .i64 a2], .bool true]) (by simp [results, Tryz.results19, go_sem, zc]) rfl ⟨.slice A4 ms.length c4, by rw [HN.out] <;> rfl, ?_, ?_⟩
      · rw [HN.out]
        exact own_base (own_all5 HO5.out hrB _ _ _ _ _) (by omega)
      · have hQ := HW.out
        (repeat refine up_set ?_ _ _ (by first | exact Nat.le_refl _ | (simp; done) | (simp; omega) | omega))
        exact hQ
set_option maxRecDepth 100000 in
set_option maxHeartbeats 1000000 in
theorem sdo_redo (e : Es) (o : List (List UInt8)) (v : Value) (a : List UInt8) (w : World) (h : RdM w v e.ms) (hin : EdIn e o) (hnm : a = [114, 101, 100, 111]) :
    Calls Tryz.prog 19 #[edW e v, S a] w (EdOut w.heap.size (edDo e o .redo) e w) := by
  have HS := Lib.hid (fun (j : Nat) (hj : j < a.length) => ne32 (a := a) (by rw [hnm]; decide) hj)
  have n0 : (a == [112, 117, 116]) = false := by rw [hnm]; rfl
  have n1 : (a == [108, 105, 110, 101]) = false := by rw [hnm]; rfl
  have n2 : (a == [99, 117, 116]) = false := by rw [hnm]; rfl
  have n3 : (a == [112, 97, 115, 116, 101]) = false := by rw [hnm]; rfl
  have n4 : (a == [114, 105, 103, 104, 116]) = false := by rw [hnm]; rfl
  have n5 : (a == [108, 101, 102, 116]) = false := by rw [hnm]; rfl
  have n6 : (a == [102, 105, 110, 100]) = false := by rw [hnm]; rfl
  have n7 : (a == [114, 117, 110]) = false := by rw [hnm]; rfl
  have n8 : (a == [117, 110, 100, 111]) = false := by rw [hnm]; rfl
  have n9 : (a == [114, 101, 100, 111]) = true := by rw [hnm]; rfl
  have hal : a.length ≤ 10 := by rw [hnm]; decide
  clear hnm
  have hsl := tv_len hin.g.t
  have hn30 := hin.g.n30
  have hcl := tv_len hin.c
  have hok := hin.ok
  have OW := Lib.hid (fun (w' : World) (hb : Below w.heap.size w w') => l1OwnEditor_any v e.ms e.pa e.s e.x e.cl w' (h.up hb) (by omega))
  have EV := Lib.hid (fun (u : Value) (w' : World) (h' : RdM w' u e.ms) => (specEditorValid_any u e.ms e.pa e.s e.x e.cl w' h' (by omega) (by unfold maxLen; omega) (by unfold maxLen; omega)).mono fun en w2 ⟨ok, h1, h2, h3⟩ => (show en = Ending.returned (.bool true) ∧ Below w'.heap.size w' w2 from ⟨by rw [h1, h2.2 hok], h3⟩))
  have HP := Lib.hid h.2
  unfold EdOwn at OW
  obtain ⟨kk, hk⟩ : ∃ kk : Nat, e.pa = kk := ⟨e.pa.toNat, by have := hin.g.a0; omega⟩
  have hg := hin.g
  rw [hk] at hg
  have HB := Lib.hid (fun (u : Value) (w' : World) (h' : RdM w' u e.ms) => specHistoryForth_yes u e.ms kk e.s w' o h' hg)
  have HR := Lib.hid (show edDo e o .redo = edTo e o (foTo e.ms kk e.ms.length) by show edTo e o (foTo e.ms e.pa e.ms.length) = _; rw [hk])
  generalize (foTo e.ms kk e.ms.length) = q at *
  have HN1 := Lib.hid (show inB q 0 ((e.ms.length : Int) - 1) = false → edDo e o .redo = none from fun h => by rw [HR.out]; unfold edTo; rw [h]; rfl)
  have HN2 := Lib.hid (show inB q 0 ((e.ms.length : Int) - 1) = true → edDo e o .redo = some ⟨toText e.ms.length o e.s q, min e.x (toText e.ms.length o e.s q).length, e.cl, e.ms, toAt e.ms.length kk q⟩ from fun h => by rw [HR.out]; unfold edTo toText toAt; rw [if_pos h, if_pos h, if_pos h])
  clear HR hg
  unfold HRes at HB
  generalize toText e.ms.length o e.s q = t2 at *
  generalize toAt e.ms.length (kk : Int) q = a2 at *
  generalize inB q 0 ((e.ms.length : Int) - 1) = ok at *
  generalize edDo e o .redo = R at *
  obtain ⟨s, x, cl, ms, pa⟩ := e
  simp only at *
  subst hk
  unfold EdOut
  obtain ⟨A, k, rfl, _, _⟩ := h.1.form
  unfold edW
  unfold edAgg at OW EV ⊢
  clear h hin hok
  go_enter Tryz.func19, Tryz.ntmps19
  go_wp2_with fail
  refine (OW.out _ (by (repeat (first | exact Below.refl _ _ | assumption | refine Below.drew ?_ | refine up_drewN ?_ _ | refine up_alloc ?_ _ | refine up_set ?_ _ _ (by first | exact Nat.le_refl _ | (simp; done) | (simp; omega) | omega) | refine up_trans ?_ (by assumption))))).mono ?_
  rintro en w1 ⟨u, rfl, ho, hb⟩
  have xc : ∀ o, w1.cell? ⟨w.heap.size, o, none⟩ = #[S s, .int .i64 x, S cl, .slice A ms.length k, .int .i64 (kk : Int)][o]? := (fun o => (hb.cell (p := ⟨w.heap.size, o, none⟩) (by simp <;> omega)).trans (by simp [go_sem])); have xf : ∀ o, w1.frozen? ⟨w.heap.size, o, none⟩ = false := (fun o => (hb.frozen (p := ⟨w.heap.size, o, none⟩) (by simp <;> omega)).trans (by simp [go_sem])); have xz : w.heap.size < w1.heap.size := (by have := hb.size; (try simp at this); omega); have xy := xz
  have zc : ∀ o, w1.cell? ⟨w.heap.size + 1, o, none⟩ = #[S [], .int .i64 0, S [], .slice none 0 0, .int .i64 0][o]? := (fun o => (hb.cell (p := ⟨w.heap.size + 1, o, none⟩) (by simp <;> omega)).trans (by simp [go_sem])); have zf : ∀ o, w1.frozen? ⟨w.heap.size + 1, o, none⟩ = false := (fun o => (hb.frozen (p := ⟨w.heap.size + 1, o, none⟩) (by simp <;> omega)).trans (by simp [go_sem])); have zz : w.heap.size + 1 < w1.heap.size := (by have := hb.size; (try simp at this); omega); have zy := zz
  have hW : Below w.heap.size w w1 := by (repeat (first | exact Below.refl _ _ | assumption | refine Below.drew ?_ | refine up_drewN ?_ _ | refine up_alloc ?_ _ | refine up_set ?_ _ _ (by first | exact Nat.le_refl _ | (simp; done) | (simp; omega) | omega) | refine up_trans ?_ (by assumption)))
  have HO1 := Lib.hid (own_base ho (show w.heap.size + 2 ≤ _ by simp))
  obtain ⟨UA, UC, rfl, -, -⟩ := (RdL.of_own (f := moC) (bs := ms) ho).form
  have HW := Lib.hid hW
  clear hb ho OW hW xy zy
  go_upto_region 2 with (fail)
  obtain ⟨W2, hw⟩ : ∃ q, q = ((((w1.setCell ⟨w.heap.size, 0, none⟩ (S s)).setCell ⟨w.heap.size, 1, none⟩ (.int .i64 x)).setCell ⟨w.heap.size, 2, none⟩ (S cl)).setCell ⟨w.heap.size, 3, none⟩ (.slice UA ms.length UC)).setCell ⟨w.heap.size, 4, none⟩ (.int .i64 (kk : Int)) := ⟨_, rfl⟩
  rw [← hw]
  have xI : Is W2 w.heap.size #[S s, .int .i64 x, S cl, .slice UA ms.length UC, .int .i64 (kk : Int)] := by rw [hw]; exact is_all5 ⟨xc, xf⟩ _ _ _ _ _
  have zI : Is W2 (w.heap.size + 1) #[S [], .int .i64 0, S [], .slice none 0 0, .int .i64 0] := by rw [hw]; exact is_far5 ⟨zc, zf⟩ (by omega) _ _ _ _ _
  have hB2 : Below w.heap.size w1 W2 := by
    rw [hw]
    have hQ := Below.refl w.heap.size w1
    (repeat refine Below.setCell ?_ (by first | exact Nat.le_refl _ | (simp; done) | (simp; omega)) _)
    exact hQ
  have HO2 := Lib.hid (show OwnM W2 (w.heap.size + 2) (.slice UA ms.length UC) ms by rw [hw]; exact own_all5 HO1.out (by omega) _ _ _ _ _)
  have xz2 : w.heap.size < W2.heap.size := Nat.lt_of_lt_of_le xz hB2.size
  have zz2 : w.heap.size + 1 < W2.heap.size := Nat.lt_of_lt_of_le zz hB2.size
  have HW2 := Lib.hid (show Below w.heap.size w W2 from HW.out.trans hB2)
  have xc2 := xI.1
  clear hw hB2 HO1 HW xc xf xz zc zf zz
  go_wp2_with fail
  refine (EV.out _ _ ⟨RdL.of_own HO2.out, HP.out⟩).mono ?_
  rintro en w3 ⟨rfl, hb⟩
  replace xI := xI.up xz2 hb
  replace zI := zI.up zz2 hb
  have xz := Nat.lt_of_lt_of_le xz2 hb.size
  have zz := Nat.lt_of_lt_of_le zz2 hb.size
  have HO := Lib.hid (own_up HO2.out hb)
  have HW := Lib.hid (up_trans HW2.out hb)
  have XI := Lib.hid xI
  have ZI := Lib.hid zI
  have xc := xI.1
  have xf := xI.2
  have zc := zI.1
  have zf := zI.2
  clear hb EV HO2 HW2 xI zI xc2 xz2 zz2
  go_wp2_with fail
  go_loop [6, 7, 8] (fun nm rs i => ∃ j : Nat, j ≤ a.length ∧ nm = S a ∧ rs = S [] ∧ i = .int .i64 j) (fun _ _ i => a.length - (intOf i).toNat)
  case atStart => exact ⟨0, Nat.zero_le _, rfl, rfl, rfl⟩
  case round =>
    obtain ⟨j, hj, rfl, rfl, rfl⟩ := hrel
    have i0 : (0 : Int) ≤ (j : Int) := by omega
    by_cases hlt : j < a.length
    · have i2 : (j : Int) < (a.length : Int) := by omega
      have d0 := HS.out j hlt
      go_wp2_with fail
      go_round
      case rel => exact ⟨j + 1, by omega, rfl, rfl, by go_num⟩
      case measure => simp [intOf]; omega
    obtain rfl : j = a.length := by omega
    have i2 : ¬ (a.length : Int) < (a.length : Int) := by omega
    clear hlt hj HS
    go_wp2_with fail
    refine (HB.out _ _ ⟨RdL.of_own HO.out, HP.out⟩).mono ?_
    rintro en w4 ⟨u4, rfl, ho4, hb⟩
    obtain ⟨A4, c4, rfl, -, -⟩ := (RdL.of_own (f := moC) (bs := ms) ho4).form
    have HO4 := Lib.hid (own_base ho4 (show w.heap.size + 2 ≤ w3.heap.size by omega))
    replace XI := Lib.hid (XI.out.up xz hb)
    replace ZI := Lib.hid (ZI.out.up zz hb)
    replace HO := Lib.hid (own_up HO.out hb)
    replace HW := Lib.hid (up_trans HW.out hb)
    replace xz := Nat.lt_of_lt_of_le xz hb.size
    replace zz := Nat.lt_of_lt_of_le zz hb.size
    replace xc := XI.out.1
    replace xf := XI.out.2
    replace zc := ZI.out.1
    replace zf := ZI.out.2
    clear hb
    clear HB ho4
    rcases ok with _ | _
    · have HN := Lib.hid (HN1.out rfl)
      clear HN1 HN2
      go_upto_region 46 with (fail)
      obtain ⟨W5, hw⟩ : ∃ q, q = w4.alloc (.cells #[.slice A4 ms.length c4, .int .i64 a2] 25) := ⟨_, rfl⟩
      rw [← hw]
      have hb : Below w4.heap.size w4 W5 := by rw [hw]; exact up_alloc (Below.refl _ _) _
      replace XI := Lib.hid (XI.out.up xz hb)
      replace ZI := Lib.hid (ZI.out.up zz hb)
      replace HO := Lib.hid (own_up HO.out hb)
      replace HW := Lib.hid (up_trans HW.out hb)
      replace xz := Nat.lt_of_lt_of_le xz hb.size
      replace zz := Nat.lt_of_lt_of_le zz hb.size
      replace xc := XI.out.1
      replace xf := XI.out.2
      replace zc := ZI.out.1
      replace zf := ZI.out.2
      clear hb
      clear hw HO4
      go_wp2_with fail
      have hrB : w.heap.size + 1 < w.heap.size + 2 := by omega
      refine bodyPost_ret (v := .tuple #[.agg #[S s, .int .i64 x, S cl, .slice UA ms.length UC, .int .i64 (kk : Int)], .bool false]) (by simp [results, Tryz.results19, go_sem, zc]) rfl ⟨.slice UA ms.length UC, by rw [HN.out]; rfl, ?_, ?_⟩
      · rw [HN.out]
        exact own_base (own_all5 HO.out hrB _ _ _ _ _) (by omega)
      · have hQ := HW.out
        (repeat refine up_set ?_ _ _ (by first | exact Nat.le_refl _ | (simp; done) | (simp; omega) | omega))
        exact hQ
    · have HN := Lib.hid (HN2.out rfl)
      clear HN1 HN2
      go_upto_region 47 with (fail)
      obtain ⟨W5, hw⟩ : ∃ q, q = w4.alloc (.cells #[.slice A4 ms.length c4, .int .i64 a2] 25) := ⟨_, rfl⟩
      rw [← hw]
      have hb : Below w4.heap.size w4 W5 := by rw [hw]; exact up_alloc (Below.refl _ _) _
      have hc := (show Is W5 w4.heap.size #[.slice A4 ms.length c4, .int .i64 a2] by rw [hw]; exact new_is w4 _ _).1
      have HO5 := Lib.hid (own_up HO4.out hb)
      replace XI := Lib.hid (XI.out.up xz hb)
      replace ZI := Lib.hid (ZI.out.up zz hb)
      replace HO := Lib.hid (own_up HO.out hb)
      replace HW := Lib.hid (up_trans HW.out hb)
      replace xz := Nat.lt_of_lt_of_le xz hb.size
      replace zz := Nat.lt_of_lt_of_le zz hb.size
      replace xc := XI.out.1
      replace xf := XI.out.2
      replace zc := ZI.out.1
      replace zf := ZI.out.2
      clear hb
      clear hw HO4
      have hrB : w.heap.size + 1 < w.heap.size + 2 := by omega
      go_wp2_with fail
      refine bodyPost_ret (v := .tuple #[.agg #[S t2, .int .i64 (min x (t2.length : Int)), S cl, .slice A4 ms.length c4, .int .i64 a2], .bool true]) (by simp [results, Tryz.results19, go_sem, zc]) rfl ⟨.slice A4 ms.length c4, by rw [HN.out] <;> rfl, ?_, ?_⟩
      · rw [HN.out]
        exact own_base (own_all5 HO5.out hrB _ _ _ _ _) (by omega)
      · have hQ := HW.out
        (repeat refine up_set ?_ _ _ (by first | exact Nat.le_refl _ | (simp; done) | (simp; omega) | omega))
        exact hQ

end Go.Proofs.YtbjlkdenkmbepaaGreatDoor
