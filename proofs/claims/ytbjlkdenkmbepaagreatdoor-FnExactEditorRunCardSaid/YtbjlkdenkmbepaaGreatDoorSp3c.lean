/- What is proved here: contracts of the reference's EditorDo at what is no action. No condition. -/
import Derived.Test.YtbjlkdenkmbepaaGreatDoorSp2
import Derived.BigRegion
import Derived.Deep.Cut
import Derived.BigQuiet
namespace Go.Proofs.YtbjlkdenkmbepaaGreatDoor
open Go.RowKit
set_option linter.unusedVariables false
set_option linter.unusedSimpArgs false

def NmF (x : List UInt8) (b0 b1 b2 b3 b4 b5 b6 b7 b8 b9 : Bool) : Prop := (x == [112, 117, 116]) = b0 ∧ (x == [108, 105, 110, 101]) = b1 ∧ (x == [99, 117, 116]) = b2 ∧ (x == [112, 97, 115, 116, 101]) = b3 ∧ (x == [114, 105, 103, 104, 116]) = b4 ∧ (x == [108, 101, 102, 116]) = b5 ∧ (x == [102, 105, 110, 100]) = b6 ∧ (x == [114, 117, 110]) = b7 ∧ (x == [117, 110, 100, 111]) = b8 ∧ (x == [114, 101, 100, 111]) = b9
set_option maxRecDepth 100000 in
set_option maxHeartbeats 8000000 in
theorem sdo_no (e : Es) (o : List (List UInt8)) (v : Value) (a nx ny : List UInt8) (w : World) (h : RdM w v e.ms) (hin : EdIn e o) (hal : a.length ≤ 1048576) (hxy : a = nx ++ 32 :: ny) (hs : ∀ c ∈ nx, c ≠ 32) (R : Option Es) (hR : R = none) (hcase : (NmF nx true false false false false false false false false false ∧ ny = []) ∨ (NmF nx false true false false false false false false false false ∧ True) ∨ (NmF nx false false true false false false false false false false ∧ True) ∨ (NmF nx false false false true false false false false false false ∧ True) ∨ (NmF nx false false false false true false false false false false ∧ True) ∨ (NmF nx false false false false false true false false false false ∧ True) ∨ (NmF nx false false false false false false true false false false ∧ ny = []) ∨ (NmF nx false false false false false false false true false false ∧ ny = []) ∨ (NmF nx false false false false false false false false true false ∧ True) ∨ (NmF nx false false false false false false false false false true ∧ True) ∨ (NmF nx false false false false false false false false false false ∧ True)) :
    Calls Tryz.prog 19 #[edW e v, S a] w (EdOut w.heap.size (R) e w) := by
  obtain ⟨xl, hxl⟩ : ∃ xl, xl = nx.length := ⟨_, rfl⟩
  have hxa : xl < a.length := by rw [hxy, hxl]; simp
  have HS := Lib.hid (fun (j : Nat) (hj : j < xl) (hja : j < a.length) => (show (((a[j]).toNat : Int) == 32) = false from by
    subst hxy
    have e1 : (nx ++ 32 :: ny)[j] = nx[j] := List.getElem_append_left (by omega)
    rw [e1]
    exact ne32 hs (by omega)))
  have HX0 := Lib.hid (show (((a[xl]).toNat : Int) == 32) = true by subst hxy hxl; simp)
  have HX1 := Lib.hid (show a.take xl = nx by subst hxy hxl; simp)
  have HX2 := Lib.hid (show a.drop (xl + 1) = ny by subst hxy hxl; simp)
  have np : (nx == a) = false := by
    rw [beq_eq_false_iff_ne]
    intro e1
    have := congrArg List.length e1
    omega
  have hyl : ny.length ≤ 1048576 := by rw [← HX2.out, List.length_drop]; omega
  clear hxl hs
  have hsl := tv_len hin.g.t
  have hn30 := hin.g.n30
  have hcl := tv_len hin.c
  have hok := hin.ok
  have OW := Lib.hid (fun (w' : World) (hb : Below w.heap.size w w') => l1OwnEditor_any v e.ms e.pa e.s e.x e.cl w' (h.up hb) (by omega))
  have EV := Lib.hid (fun (u : Value) (w' : World) (h' : RdM w' u e.ms) => (specEditorValid_any u e.ms e.pa e.s e.x e.cl w' h' (by omega) (by unfold maxLen; omega) (by unfold maxLen; omega)).mono fun en w2 ⟨ok, h1, h2, h3⟩ => (show en = Ending.returned (.bool true) ∧ Below w'.heap.size w' w2 from ⟨by rw [h1, h2.2 hok], h3⟩))
  have HP := Lib.hid h.2
  unfold EdOwn at OW
  have HN := Lib.hid hR
  clear hR

  clear hxy
  obtain ⟨s, x, cl, ms, pa⟩ := e
  simp only at *
  rcases hcase with ⟨⟨n0, n1, n2, n3, n4, n5, n6, n7, n8, n9⟩, hy⟩ | ⟨⟨n0, n1, n2, n3, n4, n5, n6, n7, n8, n9⟩, hy⟩ | ⟨⟨n0, n1, n2, n3, n4, n5, n6, n7, n8, n9⟩, hy⟩ | ⟨⟨n0, n1, n2, n3, n4, n5, n6, n7, n8, n9⟩, hy⟩ | ⟨⟨n0, n1, n2, n3, n4, n5, n6, n7, n8, n9⟩, hy⟩ | ⟨⟨n0, n1, n2, n3, n4, n5, n6, n7, n8, n9⟩, hy⟩ | ⟨⟨n0, n1, n2, n3, n4, n5, n6, n7, n8, n9⟩, hy⟩ | ⟨⟨n0, n1, n2, n3, n4, n5, n6, n7, n8, n9⟩, hy⟩ | ⟨⟨n0, n1, n2, n3, n4, n5, n6, n7, n8, n9⟩, hy⟩ | ⟨⟨n0, n1, n2, n3, n4, n5, n6, n7, n8, n9⟩, hy⟩ | ⟨⟨n0, n1, n2, n3, n4, n5, n6, n7, n8, n9⟩, hy⟩
  all_goals
    try have y1 : (ny == []) = true := by rw [hy]; rfl
    try have y2 : ny.isEmpty = true := by rw [hy]; rfl
    clear hy
    unfold EdOut
    obtain ⟨A, k, rfl, _, _⟩ := h.1.form
    unfold edW
    unfold edAgg at OW EV ⊢
    clear h hin hok
    go_enter Tryz.func19, Tryz.ntmps19
    go_wp2_with fail
    refine (OW.out _ (by exact bBel)).mono ?_
    rintro en w1 ⟨u, rfl, ho, hb⟩
    have xc : ∀ o, w1.cell? ⟨w.heap.size, o, none⟩ = #[S s, .int .i64 x, S cl, .slice A ms.length k, .int .i64 pa][o]? := (fun o => (hb.cell (p := ⟨w.heap.size, o, none⟩) (by simp <;> omega)).trans (by simp [go_sem])); have xf : ∀ o, w1.frozen? ⟨w.heap.size, o, none⟩ = false := (fun o => (hb.frozen (p := ⟨w.heap.size, o, none⟩) (by simp <;> omega)).trans (by simp [go_sem])); have xz : w.heap.size < w1.heap.size := (by have := hb.size; (try simp at this); omega); have xy := xz
    have zc : ∀ o, w1.cell? ⟨w.heap.size + 1, o, none⟩ = #[S [], .int .i64 0, S [], .slice none 0 0, .int .i64 0][o]? := (fun o => (hb.cell (p := ⟨w.heap.size + 1, o, none⟩) (by simp <;> omega)).trans (by simp [go_sem])); have zf : ∀ o, w1.frozen? ⟨w.heap.size + 1, o, none⟩ = false := (fun o => (hb.frozen (p := ⟨w.heap.size + 1, o, none⟩) (by simp <;> omega)).trans (by simp [go_sem])); have zz : w.heap.size + 1 < w1.heap.size := (by have := hb.size; (try simp at this); omega); have zy := zz
    have hW : Below w.heap.size w w1 := by exact bBel
    have HO1 := Lib.hid (own_base ho (show w.heap.size + 2 ≤ _ by simp))
    obtain ⟨UA, UC, rfl, -, -⟩ := (RdL.of_own (f := moC) (bs := ms) ho).form
    have HW := Lib.hid hW
    clear hb ho OW hW xy zy
    go_upto_region 2 with (fail)
    obtain ⟨W2, hw⟩ : ∃ q, q = ((((w1.setCell ⟨w.heap.size, 0, none⟩ (S s)).setCell ⟨w.heap.size, 1, none⟩ (.int .i64 x)).setCell ⟨w.heap.size, 2, none⟩ (S cl)).setCell ⟨w.heap.size, 3, none⟩ (.slice UA ms.length UC)).setCell ⟨w.heap.size, 4, none⟩ (.int .i64 pa) := ⟨_, rfl⟩
    rw [← hw]
    have xI : Is W2 w.heap.size #[S s, .int .i64 x, S cl, .slice UA ms.length UC, .int .i64 pa] := by rw [hw]; exact is_all5 ⟨xc, xf⟩ _ _ _ _ _
    have zI : Is W2 (w.heap.size + 1) #[S [], .int .i64 0, S [], .slice none 0 0, .int .i64 0] := by rw [hw]; exact is_far5 ⟨zc, zf⟩ (by omega) _ _ _ _ _
    have hB2 : Below w.heap.size w1 W2 := by
      rw [hw]
      have hQ := Below.refl w.heap.size w1
      (repeat refine Below.setCell ?_ (by first | exact Nat.le_refl _ | (simp; done) | (simp; omega)) _)
      exact hQ
    have HO2 := Lib.hid (show OwnM W2 (w.heap.size + 2) (.slice UA ms.length UC) ms by rw [hw]; exact own_all5 HO1.out (by omega) _ _ _ _ _)
    have xz2 : w.heap.size < W2.heap.size := Nat.lt_of_lt_of_le xz hB2.size
    have zz2 : w.heap.size + 1 < W2.heap.size := Nat.lt_of_lt_of_le zz hB2.size
    have HW2 := Lib.hid (show Below w.heap.size w W2 from HW.out.trans hB2)
    have xc2 := xI.1
    clear hw hB2 HO1 HW xc xf xz zc zf zz
    go_wp2_with fail
    refine (EV.out _ _ ⟨RdL.of_own HO2.out, HP.out⟩).mono ?_
    rintro en w3 ⟨rfl, hb⟩
    replace xI := xI.up xz2 hb
    replace zI := zI.up zz2 hb
    have xz := Nat.lt_of_lt_of_le xz2 hb.size
    have zz := Nat.lt_of_lt_of_le zz2 hb.size
    have HO := Lib.hid (own_up HO2.out hb)
    have HW := Lib.hid (up_trans HW2.out hb)
    have XI := Lib.hid xI
    have ZI := Lib.hid zI
    have xc := xI.1
    have xf := xI.2
    have zc := zI.1
    have zf := zI.2
    clear hb EV HO2 HW2 xI zI xc2 xz2 zz2
    go_wp2_with fail
    go_loop [6, 7, 8] (fun nm rs i => ∃ j : Nat, j ≤ xl ∧ nm = S a ∧ rs = S [] ∧ i = .int .i64 j) (fun _ _ i => a.length - (intOf i).toNat)
    case atStart => exact ⟨0, Nat.zero_le _, rfl, rfl, rfl⟩
    case round =>
      obtain ⟨j, hj, rfl, rfl, rfl⟩ := hrel
      have i0 : (0 : Int) ≤ (j : Int) := by omega
      have hja : j < a.length := by omega
      have i2 : (j : Int) < (a.length : Int) := by omega
      by_cases hlt : j < xl
      · have d0 := HS.out j hlt hja
        go_wp2_with fail
        go_round
        case rel => exact ⟨j + 1, by omega, rfl, rfl, by go_num⟩
        case measure => simp [intOf]; omega
      obtain rfl : j = xl := by omega
      have d0 : (((a[j]).toNat : Int) == 32) = true := HX0.out
      have i3 : (j : Int) ≤ (a.length : Int) := by omega
      have i4 : (j : Int) + 1 ≤ (a.length : Int) := by omega
      have i5 : (0 : Int) ≤ (j : Int) + 1 := by omega
      have i6 : ((j : Int) + 1).toNat = j + 1 := by omega
      have t1 : a.take j = nx := HX1.out
      have t2 : a.drop (j + 1) = ny := HX2.out
      clear hlt hj HS HX0 HX1 HX2
      go_wp2_with fail
      have hrB : w.heap.size + 1 < w.heap.size + 2 := by omega
      refine bodyPost_ret (v := .tuple #[.agg #[S s, .int .i64 x, S cl, .slice UA ms.length UC, .int .i64 pa], .bool false]) (by simp [results, Tryz.results19, go_sem, zc]) rfl ⟨.slice UA ms.length UC, by rw [HN.out]; rfl, ?_, ?_⟩
      · rw [HN.out]
        exact own_base (own_all5 HO.out hrB _ _ _ _ _) (by omega)
      · have hQ := HW.out
        (repeat refine up_set ?_ _ _ (by first | exact Nat.le_refl _ | (simp; done) | (simp; omega) | omega))
        exact hQ
set_option maxRecDepth 100000 in
set_option maxHeartbeats 8000000 in
theorem sdo_pn (e : Es) (o : List (List UInt8)) (v : Value) (a : List UInt8) (w : World) (h : RdM w v e.ms) (hin : EdIn e o) (hal : a.length ≤ 1048576) (hs : ∀ c ∈ a, c ≠ 32) (R : Option Es) (hR : R = none) (hcase : NmF a true false false false false false false false false false ∨ NmF a false false false false false false true false false false ∨ NmF a false false false false false false false true false false ∨ NmF a false false false false false false false false false false) :
    Calls Tryz.prog 19 #[edW e v, S a] w (EdOut w.heap.size (R) e w) := by
  have HS := Lib.hid (fun (j : Nat) (hj : j < a.length) => ne32 (a := a) hs hj)
  clear hs
  have hsl := tv_len hin.g.t
  have hn30 := hin.g.n30
  have hcl := tv_len hin.c
  have hok := hin.ok
  have OW := Lib.hid (fun (w' : World) (hb : Below w.heap.size w w') => l1OwnEditor_any v e.ms e.pa e.s e.x e.cl w' (h.up hb) (by omega))
  have EV := Lib.hid (fun (u : Value) (w' : World) (h' : RdM w' u e.ms) => (specEditorValid_any u e.ms e.pa e.s e.x e.cl w' h' (by omega) (by unfold maxLen; omega) (by unfold maxLen; omega)).mono fun en w2 ⟨ok, h1, h2, h3⟩ => (show en = Ending.returned (.bool true) ∧ Below w'.heap.size w' w2 from ⟨by rw [h1, h2.2 hok], h3⟩))
  have HP := Lib.hid h.2
  unfold EdOwn at OW
  have HN := Lib.hid hR
  clear hR
  obtain ⟨s, x, cl, ms, pa⟩ := e
  simp only at *
  rcases hcase with ⟨n0, n1, n2, n3, n4, n5, n6, n7, n8, n9⟩ | ⟨n0, n1, n2, n3, n4, n5, n6, n7, n8, n9⟩ | ⟨n0, n1, n2, n3, n4, n5, n6, n7, n8, n9⟩ | ⟨n0, n1, n2, n3, n4, n5, n6, n7, n8, n9⟩
  all_goals
    unfold EdOut
    obtain ⟨A, k, rfl, _, _⟩ := h.1.form
    unfold edW
    unfold edAgg at OW EV ⊢
    clear h hin hok
    go_enter Tryz.func19, Tryz.ntmps19
    go_wp2_with fail
    refine (OW.out _ (by exact bBel)).mono ?_
    rintro en w1 ⟨u, rfl, ho, hb⟩
    have xc : ∀ o, w1.cell? ⟨w.heap.size, o, none⟩ = #[S s, .int .i64 x, S cl, .slice A ms.length k, .int .i64 pa][o]? := (fun o => (hb.cell (p := ⟨w.heap.size, o, none⟩) (by simp <;> omega)).trans (by simp [go_sem])); have xf : ∀ o, w1.frozen? ⟨w.heap.size, o, none⟩ = false := (fun o => (hb.frozen (p := ⟨w.heap.size, o, none⟩) (by simp <;> omega)).trans (by simp [go_sem])); have xz : w.heap.size < w1.heap.size := (by have := hb.size; (try simp at this); omega); have xy := xz
    have zc : ∀ o, w1.cell? ⟨w.heap.size + 1, o, none⟩ = #[S [], .int .i64 0, S [], .slice none 0 0, .int .i64 0][o]? := (fun o => (hb.cell (p := ⟨w.heap.size + 1, o, none⟩) (by simp <;> omega)).trans (by simp [go_sem])); have zf : ∀ o, w1.frozen? ⟨w.heap.size + 1, o, none⟩ = false := (fun o => (hb.frozen (p := ⟨w.heap.size + 1, o, none⟩) (by simp <;> omega)).trans (by simp [go_sem])); have zz : w.heap.size + 1 < w1.heap.size := (by have := hb.size; (try simp at this); omega); have zy := zz
    have hW : Below w.heap.size w w1 := by exact bBel
    have HO1 := Lib.hid (own_base ho (show w.heap.size + 2 ≤ _ by simp))
    obtain ⟨UA, UC, rfl, -, -⟩ := (RdL.of_own (f := moC) (bs := ms) ho).form
    have HW := Lib.hid hW
    clear hb ho OW hW xy zy
    go_upto_region 2 with (fail)
    obtain ⟨W2, hw⟩ : ∃ q, q = ((((w1.setCell ⟨w.heap.size, 0, none⟩ (S s)).setCell ⟨w.heap.size, 1, none⟩ (.int .i64 x)).setCell ⟨w.heap.size, 2, none⟩ (S cl)).setCell ⟨w.heap.size, 3, none⟩ (.slice UA ms.length UC)).setCell ⟨w.heap.size, 4, none⟩ (.int .i64 pa) := ⟨_, rfl⟩
    rw [← hw]
    have xI : Is W2 w.heap.size #[S s, .int .i64 x, S cl, .slice UA ms.length UC, .int .i64 pa] := by rw [hw]; exact is_all5 ⟨xc, xf⟩ _ _ _ _ _
    have zI : Is W2 (w.heap.size + 1) #[S [], .int .i64 0, S [], .slice none 0 0, .int .i64 0] := by rw [hw]; exact is_far5 ⟨zc, zf⟩ (by omega) _ _ _ _ _
    have hB2 : Below w.heap.size w1 W2 := by
      rw [hw]
      have hQ := Below.refl w.heap.size w1
      (repeat refine Below.setCell ?_ (by first | exact Nat.le_refl _ | (simp; done) | (simp; omega)) _)
      exact hQ
    have HO2 := Lib.hid (show OwnM W2 (w.heap.size + 2) (.slice UA ms.length UC) ms by rw [hw]; exact own_all5 HO1.out (by omega) _ _ _ _ _)
    have xz2 : w.heap.size < W2.heap.size := Nat.lt_of_lt_of_le xz hB2.size
    have zz2 : w.heap.size + 1 < W2.heap.size := Nat.lt_of_lt_of_le zz hB2.size
    have HW2 := Lib.hid (show Below w.heap.size w W2 from HW.out.trans hB2)
    have xc2 := xI.1
    clear hw hB2 HO1 HW xc xf xz zc zf zz
    go_wp2_with fail
    refine (EV.out _ _ ⟨RdL.of_own HO2.out, HP.out⟩).mono ?_
    rintro en w3 ⟨rfl, hb⟩
    replace xI := xI.up xz2 hb
    replace zI := zI.up zz2 hb
    have xz := Nat.lt_of_lt_of_le xz2 hb.size
    have zz := Nat.lt_of_lt_of_le zz2 hb.size
    have HO := Lib.hid (own_up HO2.out hb)
    have HW := Lib.hid (up_trans HW2.out hb)
    have XI := Lib.hid xI
    have ZI := Lib.hid zI
    have xc := xI.1
    have xf := xI.2
    have zc := zI.1
    have zf := zI.2
    clear hb EV HO2 HW2 xI zI xc2 xz2 zz2
    go_wp2_with fail
    go_loop [6, 7, 8] (fun nm rs i => ∃ j : Nat, j ≤ a.length ∧ nm = S a ∧ rs = S [] ∧ i = .int .i64 j) (fun _ _ i => a.length - (intOf i).toNat)
    case atStart => exact ⟨0, Nat.zero_le _, rfl, rfl, rfl⟩
    case round =>
      obtain ⟨j, hj, rfl, rfl, rfl⟩ := hrel
      have i0 : (0 : Int) ≤ (j : Int) := by omega
      by_cases hlt : j < a.length
      · have i2 : (j : Int) < (a.length : Int) := by omega
        have d0 := HS.out j hlt
        go_wp2_with fail
        go_round
        case rel => exact ⟨j + 1, by omega, rfl, rfl, by go_num⟩
        case measure => simp [intOf]; omega
      obtain rfl : j = a.length := by omega
      have i2 : ¬ (a.length : Int) < (a.length : Int) := by omega
      clear hlt hj HS
      go_wp2_with fail
      have hrB : w.heap.size + 1 < w.heap.size + 2 := by omega
      refine bodyPost_ret (v := .tuple #[.agg #[S s, .int .i64 x, S cl, .slice UA ms.length UC, .int .i64 pa], .bool false]) (by simp [results, Tryz.results19, go_sem, zc]) rfl ⟨.slice UA ms.length UC, by rw [HN.out]; rfl, ?_, ?_⟩
      · rw [HN.out]
        exact own_base (own_all5 HO.out hrB _ _ _ _ _) (by omega)
      · have hQ := HW.out
        (repeat refine up_set ?_ _ _ (by first | exact Nat.le_refl _ | (simp; done) | (simp; omega) | omega))
        exact hQ

end Go.Proofs.YtbjlkdenkmbepaaGreatDoor
