/- What is proved here: What is proved here: contracts of the reference's EditorDo at cut. What is proved here: contracts of the reference's EditorDo at find. No condition. -/
import Derived.Test.YtbjlkdenkmbepaaGreatDoorSp2
import Derived.Test.YtbjlkdenkmbepaaGreatDoorAc5
import Derived.BigRegion
import Derived.Deep.Cut
import Derived.BigQuiet
import Derived.Test.YtbjlkdenkmbepaaGreatDoorAc0
namespace Go.Proofs.YtbjlkdenkmbepaaGreatDoor
open Go.RowKit
set_option linter.unusedVariables false
set_option linter.unusedSimpArgs false

set_option maxRecDepth 100000 in
set_option maxHeartbeats 1000000 in
theorem sdo_cut0 (e : Es) (o : List (List UInt8)) (v : Value) (a : List UInt8) (w : World) (h : RdM w v e.ms) (hin : EdIn e o) (hnm : a = [99, 117, 116]) (hfz : waA e.s e.x.toNat = waZ e.s e.x.toNat) :
    Calls Tryz.prog 19 #[edW e v, S a] w (EdOut w.heap.size (edDo e o .cut) e w) := by
  have HS := Lib.hid (fun (j : Nat) (hj : j < a.length) => ne32 (a := a) (by rw [hnm]; decide) hj)
  have n0 : (a == [112, 117, 116]) = false := by rw [hnm]; rfl
  have n1 : (a == [108, 105, 110, 101]) = false := by rw [hnm]; rfl
  have n2 : (a == [99, 117, 116]) = true := by rw [hnm]; rfl
  have hal : a.length ≤ 10 := by rw [hnm]; decide
  clear hnm
  have hsl := tv_len hin.g.t
  have hn30 := hin.g.n30
  have hcl := tv_len hin.c
  have hok := hin.ok
  have OW := Lib.hid (fun (w' : World) (hb : Below w.heap.size w w') => l1OwnEditor_any v e.ms e.pa e.s e.x e.cl w' (h.up hb) (by omega))
  have EV := Lib.hid (fun (u : Value) (w' : World) (h' : RdM w' u e.ms) => (specEditorValid_any u e.ms e.pa e.s e.x e.cl w' h' (by omega) (by unfold maxLen; omega) (by unfold maxLen; omega)).mono fun en w2 ⟨ok, h1, h2, h3⟩ => (show en = Ending.returned (.bool true) ∧ Below w'.heap.size w' w2 from ⟨by rw [h1, h2.2 hok], h3⟩))
  have HP := Lib.hid h.2
  unfold EdOwn at OW
  obtain ⟨p, hp⟩ : ∃ p : Nat, e.x = p := ⟨e.x.toNat, by have := hin.x0; omega⟩
  have hpl : p ≤ e.s.length := by have := hin.x1; omega
  have WD := Lib.hid (fun w => specWordAround_any e.s p w hin.g.t hpl)
  have wa := waA_le e.s p
  have wz := waZ_le e.s p hpl
  have hdo : edDo e o .cut = if waA e.s p = waZ e.s p then none else edCh e ⟨waA e.s p, (waZ e.s p : Int) - waA e.s p, []⟩ ((e.s.take (waZ e.s p)).drop (waA e.s p)) := by
    show (if waA e.s e.x.toNat = waZ e.s e.x.toNat then none else edCh e ⟨waA e.s e.x.toNat, (waZ e.s e.x.toNat : Int) - waA e.s e.x.toNat, []⟩ ((e.s.take (waZ e.s e.x.toNat)).drop (waA e.s e.x.toNat))) = _
    rw [hp, Int.toNat_natCast]
  rw [hdo]
  clear hdo
  rw [hp, Int.toNat_natCast] at hfz
  obtain ⟨f, hf⟩ : ∃ f, f = waA e.s p := ⟨_, rfl⟩
  obtain ⟨z, hz⟩ : ∃ z, z = waZ e.s p := ⟨_, rfl⟩
  rw [← hf, ← hz] at WD hfz ⊢
  rw [← hf] at wa
  rw [← hz] at wz
  clear hf hz
  rw [if_pos hfz]
  subst hfz
  obtain ⟨R, hR⟩ : ∃ R : Option Es, R = none := ⟨_, rfl⟩
  rw [← hR]
  have HN := Lib.hid hR
  clear hR wa wz
  obtain ⟨s, x, cl, ms, pa⟩ := e
  simp only at *
  subst hp
  unfold EdOut
  obtain ⟨A, k, rfl, _, _⟩ := h.1.form
  unfold edW
  unfold edAgg at OW EV ⊢
  clear h hin hok
  go_enter Tryz.func19, Tryz.ntmps19
  go_wp2_with fail
  refine (OW.out _ (by exact bBel)).mono ?_
  rintro en w1 ⟨u, rfl, ho, hb⟩
  have xc : ∀ o, w1.cell? ⟨w.heap.size, o, none⟩ = #[S s, .int .i64 (p : Int), S cl, .slice A ms.length k, .int .i64 pa][o]? := (fun o => (hb.cell (p := ⟨w.heap.size, o, none⟩) (by simp <;> omega)).trans (by simp [go_sem])); have xf : ∀ o, w1.frozen? ⟨w.heap.size, o, none⟩ = false := (fun o => (hb.frozen (p := ⟨w.heap.size, o, none⟩) (by simp <;> omega)).trans (by simp [go_sem])); have xz : w.heap.size < w1.heap.size := (by have := hb.size; (try simp at this); omega); have xy := xz
  have zc : ∀ o, w1.cell? ⟨w.heap.size + 1, o, none⟩ = #[S [], .int .i64 0, S [], .slice none 0 0, .int .i64 0][o]? := (fun o => (hb.cell (p := ⟨w.heap.size + 1, o, none⟩) (by simp <;> omega)).trans (by simp [go_sem])); have zf : ∀ o, w1.frozen? ⟨w.heap.size + 1, o, none⟩ = false := (fun o => (hb.frozen (p := ⟨w.heap.size + 1, o, none⟩) (by simp <;> omega)).trans (by simp [go_sem])); have zz : w.heap.size + 1 < w1.heap.size := (by have := hb.size; (try simp at this); omega); have zy := zz
  have hW : Below w.heap.size w w1 := by exact bBel
  have HO1 := Lib.hid (own_base ho (show w.heap.size + 2 ≤ _ by simp))
  obtain ⟨UA, UC, rfl, -, -⟩ := (RdL.of_own (f := moC) (bs := ms) ho).form
  have HW := Lib.hid hW
  clear hb ho OW hW xy zy
  go_upto_region 2 with (fail)
  obtain ⟨W2, hw⟩ : ∃ q, q = ((((w1.setCell ⟨w.heap.size, 0, none⟩ (S s)).setCell ⟨w.heap.size, 1, none⟩ (.int .i64 (p : Int))).setCell ⟨w.heap.size, 2, none⟩ (S cl)).setCell ⟨w.heap.size, 3, none⟩ (.slice UA ms.length UC)).setCell ⟨w.heap.size, 4, none⟩ (.int .i64 pa) := ⟨_, rfl⟩
  rw [← hw]
  have xI : Is W2 w.heap.size #[S s, .int .i64 (p : Int), S cl, .slice UA ms.length UC, .int .i64 pa] := by rw [hw]; exact is_all5 ⟨xc, xf⟩ _ _ _ _ _
  have zI : Is W2 (w.heap.size + 1) #[S [], .int .i64 0, S [], .slice none 0 0, .int .i64 0] := by rw [hw]; exact is_far5 ⟨zc, zf⟩ (by omega) _ _ _ _ _
  have hB2 : Below w.heap.size w1 W2 := by
    rw [hw]
    have hQ := Below.refl w.heap.size w1
    (repeat refine Below.setCell ?_ (by first | exact Nat.le_refl _ | (simp; done) | (simp; omega)) _)
    exact hQ
  have HO2 := Lib.hid (show OwnM W2 (w.heap.size + 2) (.slice UA ms.length UC) ms by rw [hw]; exact own_all5 HO1.out (by omega) _ _ _ _ _)
  have xz2 : w.heap.size < W2.heap.size := Nat.lt_of_lt_of_le xz hB2.size
  have zz2 : w.heap.size + 1 < W2.heap.size := Nat.lt_of_lt_of_le zz hB2.size
  have HW2 := Lib.hid (show Below w.heap.size w W2 from HW.out.trans hB2)
  have xc2 := xI.1
  clear hw hB2 HO1 HW xc xf xz zc zf zz
  go_wp2_with fail
  refine (EV.out _ _ ⟨RdL.of_own HO2.out, HP.out⟩).mono ?_
  rintro en w3 ⟨rfl, hb⟩
  replace xI := xI.up xz2 hb
  replace zI := zI.up zz2 hb
  have xz := Nat.lt_of_lt_of_le xz2 hb.size
  have zz := Nat.lt_of_lt_of_le zz2 hb.size
  have HO := Lib.hid (own_up HO2.out hb)
  have HW := Lib.hid (up_trans HW2.out hb)
  have XI := Lib.hid xI
  have ZI := Lib.hid zI
  have xc := xI.1
  have xf := xI.2
  have zc := zI.1
  have zf := zI.2
  clear hb EV HO2 HW2 xI zI xc2 xz2 zz2
  go_wp2_with fail
  go_loop [6, 7, 8] (fun nm rs i => ∃ j : Nat, j ≤ a.length ∧ nm = S a ∧ rs = S [] ∧ i = .int .i64 j) (fun _ _ i => a.length - (intOf i).toNat)
  case atStart => exact ⟨0, Nat.zero_le _, rfl, rfl, rfl⟩
  case round =>
    obtain ⟨j, hj, rfl, rfl, rfl⟩ := hrel
    have i0 : (0 : Int) ≤ (j : Int) := by omega
    by_cases hlt : j < a.length
    · have i2 : (j : Int) < (a.length : Int) := by omega
      have d0 := HS.out j hlt
      go_wp2_with fail
      go_round
      case rel => exact ⟨j + 1, by omega, rfl, rfl, by go_num⟩
      case measure => simp [intOf]; omega
    obtain rfl : j = a.length := by omega
    have i2 : ¬ (a.length : Int) < (a.length : Int) := by omega
    clear hlt hj HS
    go_wp2_with fail
    refine (WD.out _).mono ?_
    rintro en w4 ⟨rfl, rfl⟩
    go_wp2_with fail
    have hrB : w.heap.size + 1 < w.heap.size + 2 := by omega
    refine bodyPost_ret (v := .tuple #[.agg #[S s, .int .i64 (p : Int), S cl, .slice UA ms.length UC, .int .i64 pa], .bool false]) (by simp [results, Tryz.results19, go_sem, zc]) rfl ⟨.slice UA ms.length UC, by rw [HN.out]; rfl, ?_, ?_⟩
    · rw [HN.out]
      exact own_base (own_all5 HO.out hrB _ _ _ _ _) (by omega)
    · have hQ := HW.out
      (repeat refine up_set ?_ _ _ (by first | exact Nat.le_refl _ | (simp; done) | (simp; omega) | omega))
      exact hQ
set_option maxRecDepth 100000 in
set_option maxHeartbeats 1000000 in
theorem sdo_cut1 (e : Es) (o : List (List UInt8)) (v : Value) (a : List UInt8) (w : World) (h : RdM w v e.ms) (hin : EdIn e o) (hnm : a = [99, 117, 116]) (hfz : waA e.s e.x.toNat ≠ waZ e.s e.x.toNat) :
    Calls Tryz.prog 19 #[edW e v, S a] w (EdOut w.heap.size (edDo e o .cut) e w) := by
  have HS := Lib.hid (fun (j : Nat) (hj : j < a.length) => ne32 (a := a) (by rw [hnm]; decide) hj)
  have n0 : (a == [112, 117, 116]) = false := by rw [hnm]; rfl
  have n1 : (a == [108, 105, 110, 101]) = false := by rw [hnm]; rfl
  have n2 : (a == [99, 117, 116]) = true := by rw [hnm]; rfl
  have hal : a.length ≤ 10 := by rw [hnm]; decide
  clear hnm
  have hsl := tv_len hin.g.t
  have hn30 := hin.g.n30
  have hcl := tv_len hin.c
  have hok := hin.ok
  have OW := Lib.hid (fun (w' : World) (hb : Below w.heap.size w w') => l1OwnEditor_any v e.ms e.pa e.s e.x e.cl w' (h.up hb) (by omega))
  have EV := Lib.hid (fun (u : Value) (w' : World) (h' : RdM w' u e.ms) => (specEditorValid_any u e.ms e.pa e.s e.x e.cl w' h' (by omega) (by unfold maxLen; omega) (by unfold maxLen; omega)).mono fun en w2 ⟨ok, h1, h2, h3⟩ => (show en = Ending.returned (.bool true) ∧ Below w'.heap.size w' w2 from ⟨by rw [h1, h2.2 hok], h3⟩))
  have HP := Lib.hid h.2
  unfold EdOwn at OW
  obtain ⟨p, hp⟩ : ∃ p : Nat, e.x = p := ⟨e.x.toNat, by have := hin.x0; omega⟩
  have hpl : p ≤ e.s.length := by have := hin.x1; omega
  have WD := Lib.hid (fun w => specWordAround_any e.s p w hin.g.t hpl)
  have wa := waA_le e.s p
  have wz := waZ_le e.s p hpl
  have hdo : edDo e o .cut = if waA e.s p = waZ e.s p then none else edCh e ⟨waA e.s p, (waZ e.s p : Int) - waA e.s p, []⟩ ((e.s.take (waZ e.s p)).drop (waA e.s p)) := by
    show (if waA e.s e.x.toNat = waZ e.s e.x.toNat then none else edCh e ⟨waA e.s e.x.toNat, (waZ e.s e.x.toNat : Int) - waA e.s e.x.toNat, []⟩ ((e.s.take (waZ e.s e.x.toNat)).drop (waA e.s e.x.toNat))) = _
    rw [hp, Int.toNat_natCast]
  rw [hdo]
  clear hdo
  rw [hp, Int.toNat_natCast] at hfz
  obtain ⟨f, hf⟩ : ∃ f, f = waA e.s p := ⟨_, rfl⟩
  obtain ⟨z, hz⟩ : ∃ z, z = waZ e.s p := ⟨_, rfl⟩
  rw [← hf, ← hz] at WD hfz ⊢
  rw [← hf] at wa
  rw [← hz] at wz
  clear hf hz
  rw [if_neg hfz]
  have L25 := Lib.hid (fun (u : Value) (w' : World) (h' : RdM w' u e.ms) (ho' : OwnM w' (w.heap.size + 2) u e.ms) (hB' : w.heap.size + 2 ≤ w'.heap.size) => l25_any e o ⟨f, (z : Int) - f, []⟩ ((e.s.take z).drop f) u (w.heap.size + 2) w' h' ho' hB' hin (by simp))
  rw [show edCh e ⟨f, (z : Int) - f, []⟩ ((e.s.take z).drop f) = edCh e ⟨f, (z : Int) - f, []⟩ ((e.s.take z).drop f) from rfl] at L25
  obtain ⟨e2, he2⟩ : ∃ e2, e2 = (edCh e ⟨f, (z : Int) - f, []⟩ ((e.s.take z).drop f)).getD e := ⟨_, rfl⟩
  obtain ⟨ok, hok2⟩ : ∃ ok, ok = (edCh e ⟨f, (z : Int) - f, []⟩ ((e.s.take z).drop f)).isSome := ⟨_, rfl⟩
  have HE2 := Lib.hid (show (edCh e ⟨f, (z : Int) - f, []⟩ ((e.s.take z).drop f)).getD e = e2 ∧ (edCh e ⟨f, (z : Int) - f, []⟩ ((e.s.take z).drop f)).isSome = ok from ⟨he2.symm, hok2.symm⟩)
  unfold EdOut at L25
  rw [← he2, ← hok2] at L25
  clear he2 hok2
  generalize edCh e ⟨f, (z : Int) - f, []⟩ ((e.s.take z).drop f) = R at *
  obtain ⟨s2, x2, cl2, ms2, pa2⟩ := e2
  unfold edW edAgg chAgg at L25
  simp only at L25
  have fz : ((f : Int) == (z : Int)) = false := by rw [beq_eq_false_iff_ne]; omega
  have l0 : (0 : Int) ≤ (f : Int) := by omega
  have l1 : (f : Int) ≤ (z : Int) := by omega
  have l2 : (z : Int) ≤ (e.s.length : Int) := by omega
  have a1 : IntKind.i64.wrap ((z : Int) - (f : Int)) = (z : Int) - (f : Int) := by rw [IntWalk.i64_in _ (by omega)]
  clear hfz wa wz
  obtain ⟨s, x, cl, ms, pa⟩ := e
  simp only at *
  subst hp
  unfold EdOut
  obtain ⟨A, k, rfl, _, _⟩ := h.1.form
  unfold edW
  unfold edAgg at OW EV ⊢
  clear h hin hok
  go_enter Tryz.func19, Tryz.ntmps19
  go_wp2_with fail
  refine (OW.out _ (by exact bBel)).mono ?_
  rintro en w1 ⟨u, rfl, ho, hb⟩
  have xc : ∀ o, w1.cell? ⟨w.heap.size, o, none⟩ = #[S s, .int .i64 (p : Int), S cl, .slice A ms.length k, .int .i64 pa][o]? := (fun o => (hb.cell (p := ⟨w.heap.size, o, none⟩) (by simp <;> omega)).trans (by simp [go_sem])); have xf : ∀ o, w1.frozen? ⟨w.heap.size, o, none⟩ = false := (fun o => (hb.frozen (p := ⟨w.heap.size, o, none⟩) (by simp <;> omega)).trans (by simp [go_sem])); have xz : w.heap.size < w1.heap.size := (by have := hb.size; (try simp at this); omega); have xy := xz
  have zc : ∀ o, w1.cell? ⟨w.heap.size + 1, o, none⟩ = #[S [], .int .i64 0, S [], .slice none 0 0, .int .i64 0][o]? := (fun o => (hb.cell (p := ⟨w.heap.size + 1, o, none⟩) (by simp <;> omega)).trans (by simp [go_sem])); have zf : ∀ o, w1.frozen? ⟨w.heap.size + 1, o, none⟩ = false := (fun o => (hb.frozen (p := ⟨w.heap.size + 1, o, none⟩) (by simp <;> omega)).trans (by simp [go_sem])); have zz : w.heap.size + 1 < w1.heap.size := (by have := hb.size; (try simp at this); omega); have zy := zz
  have hW : Below w.heap.size w w1 := by exact bBel
  have HO1 := Lib.hid (own_base ho (show w.heap.size + 2 ≤ _ by simp))
  obtain ⟨UA, UC, rfl, -, -⟩ := (RdL.of_own (f := moC) (bs := ms) ho).form
  have HW := Lib.hid hW
  clear hb ho OW hW xy zy
  go_upto_region 2 with (fail)
  obtain ⟨W2, hw⟩ : ∃ q, q = ((((w1.setCell ⟨w.heap.size, 0, none⟩ (S s)).setCell ⟨w.heap.size, 1, none⟩ (.int .i64 (p : Int))).setCell ⟨w.heap.size, 2, none⟩ (S cl)).setCell ⟨w.heap.size, 3, none⟩ (.slice UA ms.length UC)).setCell ⟨w.heap.size, 4, none⟩ (.int .i64 pa) := ⟨_, rfl⟩
  rw [← hw]
  have xI : Is W2 w.heap.size #[S s, .int .i64 (p : Int), S cl, .slice UA ms.length UC, .int .i64 pa] := by rw [hw]; exact is_all5 ⟨xc, xf⟩ _ _ _ _ _
  have zI : Is W2 (w.heap.size + 1) #[S [], .int .i64 0, S [], .slice none 0 0, .int .i64 0] := by rw [hw]; exact is_far5 ⟨zc, zf⟩ (by omega) _ _ _ _ _
  have hB2 : Below w.heap.size w1 W2 := by
    rw [hw]
    have hQ := Below.refl w.heap.size w1
    (repeat refine Below.setCell ?_ (by first | exact Nat.le_refl _ | (simp; done) | (simp; omega)) _)
    exact hQ
  have HO2 := Lib.hid (show OwnM W2 (w.heap.size + 2) (.slice UA ms.length UC) ms by rw [hw]; exact own_all5 HO1.out (by omega) _ _ _ _ _)
  have xz2 : w.heap.size < W2.heap.size := Nat.lt_of_lt_of_le xz hB2.size
  have zz2 : w.heap.size + 1 < W2.heap.size := Nat.lt_of_lt_of_le zz hB2.size
  have HW2 := Lib.hid (show Below w.heap.size w W2 from HW.out.trans hB2)
  have xc2 := xI.1
  clear hw hB2 HO1 HW xc xf xz zc zf zz
  go_wp2_with fail
  refine (EV.out _ _ ⟨RdL.of_own HO2.out, HP.out⟩).mono ?_
  rintro en w3 ⟨rfl, hb⟩
  replace xI := xI.up xz2 hb
  replace zI := zI.up zz2 hb
  have xz := Nat.lt_of_lt_of_le xz2 hb.size
  have zz := Nat.lt_of_lt_of_le zz2 hb.size
  have HO := Lib.hid (own_up HO2.out hb)
  have HW := Lib.hid (up_trans HW2.out hb)
  have XI := Lib.hid xI
  have ZI := Lib.hid zI
  have xc := xI.1
  have xf := xI.2
  have zc := zI.1
  have zf := zI.2
  clear hb EV HO2 HW2 xI zI xc2 xz2 zz2
  go_wp2_with fail
  go_loop [6, 7, 8] (fun nm rs i => ∃ j : Nat, j ≤ a.length ∧ nm = S a ∧ rs = S [] ∧ i = .int .i64 j) (fun _ _ i => a.length - (intOf i).toNat)
  case atStart => exact ⟨0, Nat.zero_le _, rfl, rfl, rfl⟩
  case round =>
    obtain ⟨j, hj, rfl, rfl, rfl⟩ := hrel
    have i0 : (0 : Int) ≤ (j : Int) := by omega
    by_cases hlt : j < a.length
    · have i2 : (j : Int) < (a.length : Int) := by omega
      have d0 := HS.out j hlt
      go_wp2_with fail
      go_round
      case rel => exact ⟨j + 1, by omega, rfl, rfl, by go_num⟩
      case measure => simp [intOf]; omega
    obtain rfl : j = a.length := by omega
    have i2 : ¬ (a.length : Int) < (a.length : Int) := by omega
    clear hlt hj HS
    go_wp2_with fail
    refine (WD.out _).mono ?_
    rintro en w4 ⟨rfl, rfl⟩
    go_upto_region 21 with (fail)
    have HM0 : EX5 (w.heap.size + 1) w3.drew := ⟨⟨_, _, _, _, _, (show Is w3.drew (w.heap.size + 1) _ from ZI.out)⟩, zz⟩
    obtain ⟨r, hr⟩ : ∃ r, r = w.heap.size + 1 := ⟨_, rfl⟩
    obtain ⟨B0, hB0⟩ : ∃ r, r = w.heap.size + 2 := ⟨_, rfl⟩
    obtain ⟨qx, hqx⟩ : ∃ q, q = w.heap.size := ⟨_, rfl⟩
    have nxr : qx ≠ r := by omega
    have hrB : r < B0 := by omega
    have hqr : w.heap.size ≤ r := by omega
    have hqB : w.heap.size ≤ B0 := by omega
    have hB3 : B0 ≤ w3.heap.size := by omega
    have e1 : w.heap.size + 1 = r := hr.symm
    have HBE := Lib.hid hB0.symm
    rw [← hr] at HM0 zz
    simp only [e1]
    rw [show w.heap.size + 2 = B0 from HBE.out] at HO
    rw [← hqx] at xc xz ⊢
    clear zc zf hr hqx hB0 e1
    rw [show w.heap.size + 2 = B0 from HBE.out] at L25
    --EVER{spec.EditorDo;21;sdcut}
    refine wp_region_ever (R := RQ r (FX r B0 ⟨s2, x2, cl2, ms2, pa2⟩)) (M := fun _ w => EX5 r w) [qEq _ _ (.agg #[S s, .int .i64 (p : Int), S cl, .slice UA ms.length UC, .int .i64 pa]), qEq _ _ (.int .i64 (f : Int)), qEq _ _ (.int .i64 (z : Int)), qEq _ _ (.int .i64 (f : Int)), qEq _ _ (.int .i64 ((z : Int) - (f : Int))), qEq _ _ (.agg #[.int .i64 (f : Int), .int .i64 ((z : Int) - (f : Int)), S []]), qEq _ _ (.pointer (some ⟨qx, 0, none⟩)), qEq _ _ (S s), qEq _ _ (.int .i64 (f : Int)), qEq _ _ (.int .i64 (z : Int)), qEq _ _ (S ((s.take z).drop f)), xTup r B0 hrB _ ⟨s2, x2, cl2, ms2, pa2⟩ ok, xEd r B0 hrB _ ⟨s2, x2, cl2, ms2, pa2⟩, qEq _ _ (.bool ok), qPut _ _, qEq _ _ (.bool ok)] (by kernel_rfl) (RQ.refl _ _) (fun _ _ _ => RQ.trans) (by kernel_rfl) (HM0) ?_ ?_
    · refine ⟨?_, ?_, ?_, ?_, ?_, ?_, ?_, ?_, ?_, ?_, ?_, ?_, ?_, ?_, ?_, ?_, trivial⟩
      · intro k' w' ρ hk' hR hM hF
        replace hk' : k' < 16 := hk'
        obtain ⟨f0, -⟩ := hF
        replace f0 : ρ (.tmp 2) = .pointer (some ⟨qx, 0, none⟩) := f0
        refine good_of fun K hK => ?_
        have z0 := gup_c hR.grown xz nxr xc 0; have z1 := gup_c hR.grown xz nxr xc 1; have z2 := gup_c hR.grown xz nxr xc 2; have z3 := gup_c hR.grown xz nxr xc 3; have z4 := gup_c hR.grown xz nxr xc 4; simp only [List.getElem?_toArray, List.getElem?_cons_zero, List.getElem?_cons_succ] at z0 z1 z2 z3 z4; go_simp; exact hK _ _ (RQ.refl _ _ _) hM rfl
      · intro k' w' ρ hk' hR hM hF
        replace hk' : k' < 16 := hk'
        obtain ⟨f0, -⟩ := hF
        replace f0 : ρ (.tmp 10) = .int .i64 (f : Int) := f0
        exact ⟨RQ.refl _ _ _, hM, f0⟩
      · intro k' w' ρ hk' hR hM hF
        replace hk' : k' < 16 := hk'
        obtain ⟨f0, -⟩ := hF
        replace f0 : ρ (.tmp 11) = .int .i64 (z : Int) := f0
        exact ⟨RQ.refl _ _ _, hM, f0⟩
      · intro k' w' ρ hk' hR hM hF
        replace hk' : k' < 16 := hk'
        obtain ⟨f0, -⟩ := hF
        replace f0 : ρ (.tmp 10) = .int .i64 (f : Int) := f0
        exact ⟨RQ.refl _ _ _, hM, f0⟩
      · intro k' w' ρ hk' hR hM hF
        replace hk' : k' < 16 := hk'
        obtain ⟨f0, f1, -⟩ := hF
        replace f0 : ρ (.tmp 100) = .int .i64 (z : Int) := f0
        replace f1 : ρ (.tmp 101) = .int .i64 (f : Int) := f1
        refine good_of fun K hK => ?_
        go_simp
        exact hK _ _ (RQ.refl _ _ _) (hM) (rfl)
      · intro k' w' ρ hk' hR hM hF
        replace hk' : k' < 16 := hk'
        obtain ⟨f0, f1, -⟩ := hF
        replace f0 : ρ (.tmp 99) = .int .i64 (f : Int) := f0
        replace f1 : ρ (.tmp 102) = .int .i64 ((z : Int) - (f : Int)) := f1
        refine good_of fun K hK => ?_
        go_simp
        exact hK _ _ (RQ.refl _ _ _) (hM) (rfl)
      · intro k' w' ρ hk' hR hM hF
        replace hk' : k' < 16 := hk'
        obtain ⟨f0, -⟩ := hF
        replace f0 : ρ (.tmp 2) = .pointer (some ⟨qx, 0, none⟩) := f0
        refine good_of fun K hK => ?_
        go_simp
        exact hK _ _ (RQ.refl _ _ _) (hM) (rfl)
      · intro k' w' ρ hk' hR hM hF
        replace hk' : k' < 16 := hk'
        obtain ⟨f0, -⟩ := hF
        replace f0 : ρ (.tmp 104) = .pointer (some ⟨qx, 0, none⟩) := f0
        refine good_of fun K hK => ?_
        have z0 := gup_c hR.grown xz nxr xc 0; simp only [List.getElem?_toArray, List.getElem?_cons_zero, List.getElem?_cons_succ] at z0; go_simp; exact hK _ _ (RQ.refl _ _ _) hM rfl
      · intro k' w' ρ hk' hR hM hF
        replace hk' : k' < 16 := hk'
        obtain ⟨f0, -⟩ := hF
        replace f0 : ρ (.tmp 10) = .int .i64 (f : Int) := f0
        exact ⟨RQ.refl _ _ _, hM, f0⟩
      · intro k' w' ρ hk' hR hM hF
        replace hk' : k' < 16 := hk'
        obtain ⟨f0, -⟩ := hF
        replace f0 : ρ (.tmp 11) = .int .i64 (z : Int) := f0
        exact ⟨RQ.refl _ _ _, hM, f0⟩
      · intro k' w' ρ hk' hR hM hF
        replace hk' : k' < 16 := hk'
        obtain ⟨f0, f1, f2, -⟩ := hF
        replace f0 : ρ (.tmp 105) = S s := f0
        replace f1 : ρ (.tmp 106) = .int .i64 (f : Int) := f1
        replace f2 : ρ (.tmp 107) = .int .i64 (z : Int) := f2
        refine good_of fun K hK => ?_
        go_simp
        exact hK _ _ (RQ.refl _ _ _) (hM) (rfl)
      · intro k' w' ρ hk' hR hM hF
        replace hk' : k' < 16 := hk'
        obtain ⟨f0, f1, f2, f3, -⟩ := hF
        replace f0 : ρ (.func _) = .func (.func _) #[] #[] := f0
        replace f1 : ρ (.tmp 98) = .agg #[S s, .int .i64 (p : Int), S cl, .slice UA ms.length UC, .int .i64 pa] := f1
        replace f2 : ρ (.tmp 103) = .agg #[.int .i64 (f : Int), .int .i64 ((z : Int) - (f : Int)), S []] := f2
        replace f3 : ρ (.tmp 108) = S ((s.take z).drop f) := f3
        refine good_of fun K hK => ?_
        have Q := Lib.hid (gup_own HO.out hR.grown hrB); have hsz := Nat.le_trans hB3 hR.grown.size; go_simp; refine (L25.out (.slice UA ms.length UC) _ ⟨RdL.of_own Q.out, HP.out⟩ Q.out hsz).mono ?_; rintro en wc ⟨u4, rfl, ho4, hb4⟩; exact ⟨_, rfl, hK _ _ (rx_below hb4) (hM.up hb4) ⟨u4, rfl, ho4⟩⟩
      · intro k' w' ρ hk' hR hM hF
        replace hk' : k' < 16 := hk'
        obtain ⟨f0, -⟩ := hF
        refine good_of fun K hK => ?_
        obtain ⟨u4, f0, q0⟩ := f0; replace f0 : ρ (.tmp _) = .tuple #[.agg #[S s2, .int .i64 x2, S cl2, u4, .int .i64 pa2], .bool ok] := f0; have Q0 := Lib.hid q0; clear q0; go_simp; exact hK _ _ (RQ.refl _ _ _) hM ⟨u4, rfl, Q0.out⟩
      · intro k' w' ρ hk' hR hM hF
        replace hk' : k' < 16 := hk'
        obtain ⟨f0, -⟩ := hF
        refine good_of fun K hK => ?_
        obtain ⟨u4, f0, q0⟩ := f0; replace f0 : ρ (.tmp _) = .tuple #[.agg #[S s2, .int .i64 x2, S cl2, u4, .int .i64 pa2], .bool ok] := f0; clear q0; go_simp; exact hK _ _ (RQ.refl _ _ _) hM rfl
      · intro k' w' ρ hk' hR hM hF
        replace hk' : k' < 16 := hk'
        obtain ⟨f0, f1, -⟩ := hF
        replace f0 : ρ (.tmp 4) = .pointer (some ⟨r, 0, none⟩) := f0
        refine good_of fun K hK => ?_
        obtain ⟨u4, f1, q1⟩ := f1; obtain ⟨A1, c1, rfl, -, -⟩ := (RdL.of_own (f := moC) (bs := ms2) q1).form; replace f1 : ρ (.tmp _) = .agg #[S s2, .int .i64 x2, S cl2, .slice A1 ms2.length c1, .int .i64 pa2] := f1; have BB := Lib.hid (x5_put (e := ⟨s2, x2, cl2, ms2, pa2⟩) hM hrB q1); obtain ⟨⟨u0, u1, u2, u3, u4, hI⟩, hrz⟩ := hM; have z0 := hI.1 0; have z1 := hI.1 1; have z2 := hI.1 2; have z3 := hI.1 3; have z4 := hI.1 4; have zf := hI.2; simp only [List.getElem?_toArray, List.getElem?_cons_zero, List.getElem?_cons_succ] at z0 z1 z2 z3 z4; clear hI q1; go_simp; exact hK _ _ BB.out.1 BB.out.2.1 BB.out.2.2
      · intro k' w' ρ hk' hR hM hF
        replace hk' : k' < 16 := hk'
        obtain ⟨f0, -⟩ := hF
        replace f0 : ρ (.tmp 111) = .bool ok := f0
        exact ⟨RQ.refl _ _ _, hM, f0⟩
    · intro w' hR hM
      rintro _ rfl
      rintro _ rfl
      rintro _ rfl
      rintro _ rfl
      rintro _ rfl
      rintro _ rfl
      rintro _ rfl
      rintro _ rfl
      rintro _ rfl
      rintro _ rfl
      rintro _ rfl
      rintro _ ⟨_, rfl, -⟩
      rintro _ ⟨_, rfl, -⟩
      rintro _ rfl
      rintro _ hFX
      rintro _ rfl
    --END
    --END
      dsimp only [EndAll, Act.put]
      simp only [List.setIfInBounds_toArray, List.set_cons_zero, List.set_cons_succ]
      obtain ⟨w4, rfl⟩ : ∃ z, z = w' := ⟨_, rfl⟩
      obtain ⟨u4, zI, ho4, rz⟩ := hFX
      have HW4 := Lib.hid (up_grown HW.out hR.grown (fun k hk => by injection hk with hk; omega))
      have HO4 := Lib.hid (own_base ho4 hqB)
      clear WD hR hM HM0 L25
      obtain ⟨A4, c4, rfl, -, -⟩ := (RdL.of_own (f := moC) (bs := ms2) ho4).form
      have zc := zI.1
      go_wp2_with fail
      refine bodyPost_ret (v := .tuple #[.agg #[S s2, .int .i64 x2, S cl2, .slice A4 ms2.length c4, .int .i64 pa2], .bool ok]) (by simp [results, Tryz.results19, go_sem, zc]) rfl ⟨.slice A4 ms2.length c4, by rw [HE2.out.1, HE2.out.2] <;> rfl, by rw [HE2.out.1]; exact HO4.out, HW4.out⟩

end Go.Proofs.YtbjlkdenkmbepaaGreatDoor

namespace Go.Proofs.YtbjlkdenkmbepaaGreatDoor
open Go.RowKit
set_option linter.unusedVariables false
set_option linter.unusedSimpArgs false

set_option maxRecDepth 100000 in
set_option maxHeartbeats 1000000 in
theorem sdo_find (e : Es) (o : List (List UInt8)) (v : Value) (a nx ny : List UInt8) (w : World) (h : RdM w v e.ms) (hin : EdIn e o) (hal : a.length ≤ 1048576) (hxy : a = nx ++ 32 :: ny) (hs : ∀ c ∈ nx, c ≠ 32) (hnm : nx = [102, 105, 110, 100]) (hy : ny ≠ []) :
    Calls Tryz.prog 19 #[edW e v, S a] w (EdOut w.heap.size (edDo e o (.find ny)) e w) := by
  obtain ⟨xl, hxl⟩ : ∃ xl, xl = nx.length := ⟨_, rfl⟩
  have hxa : xl < a.length := by rw [hxy, hxl]; simp
  have HS := Lib.hid (fun (j : Nat) (hj : j < xl) (hja : j < a.length) => (show (((a[j]).toNat : Int) == 32) = false from by
    subst hxy
    have e1 : (nx ++ 32 :: ny)[j] = nx[j] := List.getElem_append_left (by omega)
    rw [e1]
    exact ne32 hs (by omega)))
  have HX0 := Lib.hid (show (((a[xl]).toNat : Int) == 32) = true by subst hxy hxl; simp)
  have HX1 := Lib.hid (show a.take xl = nx by subst hxy hxl; simp)
  have HX2 := Lib.hid (show a.drop (xl + 1) = ny by subst hxy hxl; simp)
  have n0 : (nx == [112, 117, 116]) = false := by rw [hnm]; rfl
  have n1 : (nx == [108, 105, 110, 101]) = false := by rw [hnm]; rfl
  have n2 : (nx == [99, 117, 116]) = false := by rw [hnm]; rfl
  have n3 : (nx == [112, 97, 115, 116, 101]) = false := by rw [hnm]; rfl
  have n4 : (nx == [114, 105, 103, 104, 116]) = false := by rw [hnm]; rfl
  have n5 : (nx == [108, 101, 102, 116]) = false := by rw [hnm]; rfl
  have n6 : (nx == [102, 105, 110, 100]) = true := by rw [hnm]; rfl
  have np : (nx == a) = false := by
    rw [beq_eq_false_iff_ne]
    intro e1
    have := congrArg List.length e1
    omega
  have hyl : ny.length ≤ 1048576 := by rw [← HX2.out, List.length_drop]; omega
  clear hxl hs
  have hsl := tv_len hin.g.t
  have hn30 := hin.g.n30
  have hcl := tv_len hin.c
  have hok := hin.ok
  have OW := Lib.hid (fun (w' : World) (hb : Below w.heap.size w w') => l1OwnEditor_any v e.ms e.pa e.s e.x e.cl w' (h.up hb) (by omega))
  have EV := Lib.hid (fun (u : Value) (w' : World) (h' : RdM w' u e.ms) => (specEditorValid_any u e.ms e.pa e.s e.x e.cl w' h' (by omega) (by unfold maxLen; omega) (by unfold maxLen; omega)).mono fun en w2 ⟨ok, h1, h2, h3⟩ => (show en = Ending.returned (.bool true) ∧ Below w'.heap.size w' w2 from ⟨by rw [h1, h2.2 hok], h3⟩))
  have HP := Lib.hid h.2
  unfold EdOwn at OW
  have y1 : (ny == []) = false := by simpa using hy
  have y2 : ny.isEmpty = false := by simpa using hy
  have y3 : (ny != []) = true := by simpa using hy
  clear hy hnm
  obtain ⟨p, hp⟩ : ∃ p : Nat, e.x = p := ⟨e.x.toNat, by have := hin.x0; omega⟩
  have hpl : p ≤ e.s.length := by have := hin.x1; omega
  have F := Lib.hid (fun w' => specFindNext_any e.s ny (p + 1) w' hin.g.t (by omega) hyl)
  have hdo : edDo e o (.find ny) = if fnx e.s ny (p + 1) < 0 then none else some { e with x := fnx e.s ny (p + 1) } := by
    show (if fnx e.s ny (e.x.toNat + 1) < 0 then none else some { e with x := fnx e.s ny (e.x.toNat + 1) }) = _
    rw [hp, Int.toNat_natCast]
  rw [hdo]
  clear hdo
  generalize fnx e.s ny (p + 1) = n at *
  obtain ⟨R, hR⟩ : ∃ R : Option Es, R = if n < 0 then none else some { e with x := n } := ⟨_, rfl⟩
  rw [← hR]
  have HQ1 := Lib.hid (fun (h : n < 0) => show R = none by rw [hR, if_pos h])
  have HQ2 := Lib.hid (fun (h : 0 ≤ n) => show R = some { e with x := n } by rw [hR, if_neg (by omega)])
  clear hR
  have a1 : IntKind.i64.wrap ((p : Int) + 1) = ((p + 1 : Nat) : Int) := by rw [IntWalk.i64_in _ (by omega)]; omega

  clear hxy
  obtain ⟨s, x, cl, ms, pa⟩ := e
  simp only at *
  subst hp
  unfold EdOut
  obtain ⟨A, k, rfl, _, _⟩ := h.1.form
  unfold edW
  unfold edAgg at OW EV ⊢
  clear h hin hok
  go_enter Tryz.func19, Tryz.ntmps19
  go_wp2_with fail
  refine (OW.out _ (by exact bBel)).mono ?_
  rintro en w1 ⟨u, rfl, ho, hb⟩
  have xc : ∀ o, w1.cell? ⟨w.heap.size, o, none⟩ = #[S s, .int .i64 (p : Int), S cl, .slice A ms.length k, .int .i64 pa][o]? := (fun o => (hb.cell (p := ⟨w.heap.size, o, none⟩) (by simp <;> omega)).trans (by simp [go_sem])); have xf : ∀ o, w1.frozen? ⟨w.heap.size, o, none⟩ = false := (fun o => (hb.frozen (p := ⟨w.heap.size, o, none⟩) (by simp <;> omega)).trans (by simp [go_sem])); have xz : w.heap.size < w1.heap.size := (by have := hb.size; (try simp at this); omega); have xy := xz
  have zc : ∀ o, w1.cell? ⟨w.heap.size + 1, o, none⟩ = #[S [], .int .i64 0, S [], .slice none 0 0, .int .i64 0][o]? := (fun o => (hb.cell (p := ⟨w.heap.size + 1, o, none⟩) (by simp <;> omega)).trans (by simp [go_sem])); have zf : ∀ o, w1.frozen? ⟨w.heap.size + 1, o, none⟩ = false := (fun o => (hb.frozen (p := ⟨w.heap.size + 1, o, none⟩) (by simp <;> omega)).trans (by simp [go_sem])); have zz : w.heap.size + 1 < w1.heap.size := (by have := hb.size; (try simp at this); omega); have zy := zz
  have hW : Below w.heap.size w w1 := by exact bBel
  have HO1 := Lib.hid (own_base ho (show w.heap.size + 2 ≤ _ by simp))
  obtain ⟨UA, UC, rfl, -, -⟩ := (RdL.of_own (f := moC) (bs := ms) ho).form
  have HW := Lib.hid hW
  clear hb ho OW hW xy zy
  go_upto_region 2 with (fail)
  obtain ⟨W2, hw⟩ : ∃ q, q = ((((w1.setCell ⟨w.heap.size, 0, none⟩ (S s)).setCell ⟨w.heap.size, 1, none⟩ (.int .i64 (p : Int))).setCell ⟨w.heap.size, 2, none⟩ (S cl)).setCell ⟨w.heap.size, 3, none⟩ (.slice UA ms.length UC)).setCell ⟨w.heap.size, 4, none⟩ (.int .i64 pa) := ⟨_, rfl⟩
  rw [← hw]
  have xI : Is W2 w.heap.size #[S s, .int .i64 (p : Int), S cl, .slice UA ms.length UC, .int .i64 pa] := by rw [hw]; exact is_all5 ⟨xc, xf⟩ _ _ _ _ _
  have zI : Is W2 (w.heap.size + 1) #[S [], .int .i64 0, S [], .slice none 0 0, .int .i64 0] := by rw [hw]; exact is_far5 ⟨zc, zf⟩ (by omega) _ _ _ _ _
  have hB2 : Below w.heap.size w1 W2 := by
    rw [hw]
    have hQ := Below.refl w.heap.size w1
    (repeat refine Below.setCell ?_ (by first | exact Nat.le_refl _ | (simp; done) | (simp; omega)) _)
    exact hQ
  have HO2 := Lib.hid (show OwnM W2 (w.heap.size + 2) (.slice UA ms.length UC) ms by rw [hw]; exact own_all5 HO1.out (by omega) _ _ _ _ _)
  have xz2 : w.heap.size < W2.heap.size := Nat.lt_of_lt_of_le xz hB2.size
  have zz2 : w.heap.size + 1 < W2.heap.size := Nat.lt_of_lt_of_le zz hB2.size
  have HW2 := Lib.hid (show Below w.heap.size w W2 from HW.out.trans hB2)
  have xc2 := xI.1
  clear hw hB2 HO1 HW xc xf xz zc zf zz
  go_wp2_with fail
  refine (EV.out _ _ ⟨RdL.of_own HO2.out, HP.out⟩).mono ?_
  rintro en w3 ⟨rfl, hb⟩
  replace xI := xI.up xz2 hb
  replace zI := zI.up zz2 hb
  have xz := Nat.lt_of_lt_of_le xz2 hb.size
  have zz := Nat.lt_of_lt_of_le zz2 hb.size
  have HO := Lib.hid (own_up HO2.out hb)
  have HW := Lib.hid (up_trans HW2.out hb)
  have XI := Lib.hid xI
  have ZI := Lib.hid zI
  have xc := xI.1
  have xf := xI.2
  have zc := zI.1
  have zf := zI.2
  clear hb EV HO2 HW2 xI zI xc2 xz2 zz2
  go_wp2_with fail
  go_loop [6, 7, 8] (fun nm rs i => ∃ j : Nat, j ≤ xl ∧ nm = S a ∧ rs = S [] ∧ i = .int .i64 j) (fun _ _ i => a.length - (intOf i).toNat)
  case atStart => exact ⟨0, Nat.zero_le _, rfl, rfl, rfl⟩
  case round =>
    obtain ⟨j, hj, rfl, rfl, rfl⟩ := hrel
    have i0 : (0 : Int) ≤ (j : Int) := by omega
    have hja : j < a.length := by omega
    have i2 : (j : Int) < (a.length : Int) := by omega
    by_cases hlt : j < xl
    · have d0 := HS.out j hlt hja
      go_wp2_with fail
      go_round
      case rel => exact ⟨j + 1, by omega, rfl, rfl, by go_num⟩
      case measure => simp [intOf]; omega
    obtain rfl : j = xl := by omega
    have d0 : (((a[j]).toNat : Int) == 32) = true := HX0.out
    have i3 : (j : Int) ≤ (a.length : Int) := by omega
    have i4 : (j : Int) + 1 ≤ (a.length : Int) := by omega
    have i5 : (0 : Int) ≤ (j : Int) + 1 := by omega
    have i6 : ((j : Int) + 1).toNat = j + 1 := by omega
    have t1 : a.take j = nx := HX1.out
    have t2 : a.drop (j + 1) = ny := HX2.out
    clear hlt hj HS HX0 HX1 HX2
    go_wp2_with fail
    refine (F.out _).mono ?_
    rintro en w4 ⟨rfl, rfl⟩
    clear F
    by_cases hn : n < 0
    · have HN := Lib.hid (HQ1.out hn)
      clear HQ1 HQ2
      go_wp2_with fail
      have hrB : w.heap.size + 1 < w.heap.size + 2 := by omega
      refine bodyPost_ret (v := .tuple #[.agg #[S s, .int .i64 (p : Int), S cl, .slice UA ms.length UC, .int .i64 pa], .bool false]) (by simp [results, Tryz.results19, go_sem, zc]) rfl ⟨.slice UA ms.length UC, by rw [HN.out]; rfl, ?_, ?_⟩
      · rw [HN.out]
        exact own_base (own_all5 HO.out hrB _ _ _ _ _) (by omega)
      · have hQ := HW.out
        (repeat refine up_set ?_ _ _ (by first | exact Nat.le_refl _ | (simp; done) | (simp; omega) | omega))
        exact hQ
    · have n1 : ¬ n < 0 := hn
      have HN := Lib.hid (HQ2.out (by omega))
      clear HQ1 HQ2 hn
      have hrB : w.heap.size + 1 < w.heap.size + 2 := by omega
      go_wp2_with fail
      refine bodyPost_ret (v := .tuple #[.agg #[S s, .int .i64 n, S cl, .slice UA ms.length UC, .int .i64 pa], .bool true]) (by simp [results, Tryz.results19, go_sem, zc]) rfl ⟨.slice UA ms.length UC, by rw [HN.out] <;> rfl, ?_, ?_⟩
      · rw [HN.out]
        exact own_base (own_all5 HO.out hrB _ _ _ _ _) (by omega)
      · have hQ := HW.out
        (repeat refine up_set ?_ _ _ (by first | exact Nat.le_refl _ | (simp; done) | (simp; omega) | omega))
        exact hQ

end Go.Proofs.YtbjlkdenkmbepaaGreatDoor
