/- What is proved here: What is proved here: the contract of the reference's RunLine. What is proved here: contracts of the reference's EditorDo at run. No condition. -/
import Derived.Test.YtbjlkdenkmbepaaGreatDoorAc24a
import Derived.Test.YtbjlkdenkmbepaaGreatDoorAc24b
import Derived.Test.YtbjlkdenkmbepaaGreatDoorAc24c
import Derived.Test.YtbjlkdenkmbepaaGreatDoorSp2
import Derived.Test.YtbjlkdenkmbepaaGreatDoorAc7
import Derived.BigRegion
import Derived.Deep.Cut
import Derived.BigQuiet
namespace Go.Proofs.YtbjlkdenkmbepaaGreatDoor
open Go.RowKit
set_option linter.unusedVariables false

/-- RunLine of the reference. -/
theorem specRunLine_any (s c : List UInt8) (w : World) (hs : tv s = true) (hc : c.length ≤ 1048576) :
    Calls Tryz.prog 60 #[S s, S c] w (RlPost s (rnL s c) w) := by
  cases hr : rng c (nl s + 1) with
  | none => exact specRun_none s c w hs hc (fun f t k h => by rw [hr] at h; cases h)
  | some p =>
    obtain ⟨f, t, k⟩ := p
    cases hd : c.drop k with
    | nil => exact specRun_none s c w hs hc (fun f' t' k' h => by
        rw [hr] at h
        injection h with h
        injection h with _ h
        injection h with _ h
        subst h
        exact List.drop_eq_nil_iff.1 hd)
    | cons b r =>
      by_cases h1 : b = 100 ∧ r = []
      · obtain ⟨rfl, rfl⟩ := h1; exact specRun_del s c f t k w hs hc hr hd
      by_cases h2 : b = 116
      · subst h2; exact specRun_cpy s c r f t k w hs hc hr hd
      by_cases h4 : b = 62 ∧ r = []
      · obtain ⟨rfl, rfl⟩ := h4; exact specRun_gt s c f t k w hs hc hr hd
      by_cases h5 : b = 60 ∧ r = []
      · obtain ⟨rfl, rfl⟩ := h5; exact specRun_lt s c f t k w hs hc hr hd
      by_cases h3 : b = 115 ∧ r.head? = some 47
      · obtain ⟨rfl, h3⟩ := h3
        obtain ⟨t', rfl⟩ : ∃ t', r = 47 :: t' := by
          cases r with
          | nil => cases h3
          | cons x r => simp at h3; exact ⟨r, by rw [h3]⟩
        by_cases hy : slH t' = true ∧ slH (slR t') = true ∧ slR (slR t') = [] ∧ slA t' ≠ []
        · exact specRun_s s c t' f t k w hs hc hr hd hy.1 hy.2.1 hy.2.2.1 hy.2.2.2
        · exact specRun_sno s c t' f t k w hs hc hr hd hy
      refine specRun_bad s c r b f t k w hs hc hr hd ?_ (fun e => fun h => h1 ⟨e, h⟩) h2 (fun e h => h3 ⟨e, h⟩) (fun e h => h4 ⟨e, h⟩) (fun e h => h5 ⟨e, h⟩)
      rw [rnL_of hr, hd]
      have hn1 : ¬ (b :: r) = [100] := fun e => by injection e with e1 e2; exact h1 ⟨e1, e2⟩
      have hn2 : ¬ (b :: r).head? = some 116 := fun e => by injection e with e; exact h2 e
      have hn3 : ¬ (b :: r) = [62] := fun e => by injection e with e1 e2; exact h4 ⟨e1, e2⟩
      have hn4 : ¬ (b :: r) = [60] := fun e => by injection e with e1 e2; exact h5 ⟨e1, e2⟩
      unfold cmOf
      rw [if_neg hn1, if_neg hn2, if_neg hn3, if_neg hn4, cmS_no (fun t' e => by injection e with e1 e2; exact absurd ⟨e1, by rw [e2]; rfl⟩ h3)]
      rfl

end Go.Proofs.YtbjlkdenkmbepaaGreatDoor

namespace Go.Proofs.YtbjlkdenkmbepaaGreatDoor
open Go.RowKit
set_option linter.unusedVariables false
set_option linter.unusedSimpArgs false

set_option maxRecDepth 100000 in
set_option maxHeartbeats 1000000 in
theorem sdo_run0 (e : Es) (o : List (List UInt8)) (v : Value) (a nx ny : List UInt8) (w : World) (h : RdM w v e.ms) (hin : EdIn e o) (hal : a.length ≤ 1048576) (hxy : a = nx ++ 32 :: ny) (hs : ∀ c ∈ nx, c ≠ 32) (hnm : nx = [114, 117, 110]) (hy : ny ≠ []) (hrn : rnL e.s ny = none) :
    Calls Tryz.prog 19 #[edW e v, S a] w (EdOut w.heap.size (edDo e o (.run ny)) e w) := by
  obtain ⟨xl, hxl⟩ : ∃ xl, xl = nx.length := ⟨_, rfl⟩
  have hxa : xl < a.length := by rw [hxy, hxl]; simp
  have HS := Lib.hid (fun (j : Nat) (hj : j < xl) (hja : j < a.length) => (show (((a[j]).toNat : Int) == 32) = false from by
    subst hxy
    have e1 : (nx ++ 32 :: ny)[j] = nx[j] := List.getElem_append_left (by omega)
    rw [e1]
    exact ne32 hs (by omega)))
  have HX0 := Lib.hid (show (((a[xl]).toNat : Int) == 32) = true by subst hxy hxl; simp)
  have HX1 := Lib.hid (show a.take xl = nx by subst hxy hxl; simp)
  have HX2 := Lib.hid (show a.drop (xl + 1) = ny by subst hxy hxl; simp)
  have n0 : (nx == [112, 117, 116]) = false := by rw [hnm]; rfl
  have n1 : (nx == [108, 105, 110, 101]) = false := by rw [hnm]; rfl
  have n2 : (nx == [99, 117, 116]) = false := by rw [hnm]; rfl
  have n3 : (nx == [112, 97, 115, 116, 101]) = false := by rw [hnm]; rfl
  have n4 : (nx == [114, 105, 103, 104, 116]) = false := by rw [hnm]; rfl
  have n5 : (nx == [108, 101, 102, 116]) = false := by rw [hnm]; rfl
  have n6 : (nx == [102, 105, 110, 100]) = false := by rw [hnm]; rfl
  have n7 : (nx == [114, 117, 110]) = true := by rw [hnm]; rfl
  have np : (nx == a) = false := by
    rw [beq_eq_false_iff_ne]
    intro e1
    have := congrArg List.length e1
    omega
  have hyl : ny.length ≤ 1048576 := by rw [← HX2.out, List.length_drop]; omega
  clear hxl hs
  have hsl := tv_len hin.g.t
  have hn30 := hin.g.n30
  have hcl := tv_len hin.c
  have hok := hin.ok
  have OW := Lib.hid (fun (w' : World) (hb : Below w.heap.size w w') => l1OwnEditor_any v e.ms e.pa e.s e.x e.cl w' (h.up hb) (by omega))
  have EV := Lib.hid (fun (u : Value) (w' : World) (h' : RdM w' u e.ms) => (specEditorValid_any u e.ms e.pa e.s e.x e.cl w' h' (by omega) (by unfold maxLen; omega) (by unfold maxLen; omega)).mono fun en w2 ⟨ok, h1, h2, h3⟩ => (show en = Ending.returned (.bool true) ∧ Below w'.heap.size w' w2 from ⟨by rw [h1, h2.2 hok], h3⟩))
  have HP := Lib.hid h.2
  unfold EdOwn at OW
  have y1 : (ny == []) = false := by simpa using hy
  have y2 : ny.isEmpty = false := by simpa using hy
  have y3 : (ny != []) = true := by simpa using hy
  clear hy hnm
  have T := hin.g.t
  have RL := Lib.hid (fun w' => specRunLine_any e.s ny w' T hyl)
  unfold RlPost at RL
  have HN := Lib.hid (show edDo e o (.run ny) = none by show (match rnL e.s ny with | none => none | some y => edCh e (dfC e.s y) e.cl) = none; rw [hrn])
  rw [hrn] at RL
  simp only [Option.getD_none, Option.isSome_none] at RL
  generalize edDo e o (.run ny) = R at *
  clear hrn T

  clear hxy
  obtain ⟨s, x, cl, ms, pa⟩ := e
  simp only at *
  unfold EdOut
  obtain ⟨A, k, rfl, _, _⟩ := h.1.form
  unfold edW
  unfold edAgg at OW EV ⊢
  clear h hin hok
  go_enter Tryz.func19, Tryz.ntmps19
  go_wp2_with fail
  refine (OW.out _ (by exact bBel)).mono ?_
  rintro en w1 ⟨u, rfl, ho, hb⟩
  have xc : ∀ o, w1.cell? ⟨w.heap.size, o, none⟩ = #[S s, .int .i64 x, S cl, .slice A ms.length k, .int .i64 pa][o]? := (fun o => (hb.cell (p := ⟨w.heap.size, o, none⟩) (by simp <;> omega)).trans (by simp [go_sem])); have xf : ∀ o, w1.frozen? ⟨w.heap.size, o, none⟩ = false := (fun o => (hb.frozen (p := ⟨w.heap.size, o, none⟩) (by simp <;> omega)).trans (by simp [go_sem])); have xz : w.heap.size < w1.heap.size := (by have := hb.size; (try simp at this); omega); have xy := xz
  have zc : ∀ o, w1.cell? ⟨w.heap.size + 1, o, none⟩ = #[S [], .int .i64 0, S [], .slice none 0 0, .int .i64 0][o]? := (fun o => (hb.cell (p := ⟨w.heap.size + 1, o, none⟩) (by simp <;> omega)).trans (by simp [go_sem])); have zf : ∀ o, w1.frozen? ⟨w.heap.size + 1, o, none⟩ = false := (fun o => (hb.frozen (p := ⟨w.heap.size + 1, o, none⟩) (by simp <;> omega)).trans (by simp [go_sem])); have zz : w.heap.size + 1 < w1.heap.size := (by have := hb.size; (try simp at this); omega); have zy := zz
  have hW : Below w.heap.size w w1 := by exact bBel
  have HO1 := Lib.hid (own_base ho (show w.heap.size + 2 ≤ _ by simp))
  obtain ⟨UA, UC, rfl, -, -⟩ := (RdL.of_own (f := moC) (bs := ms) ho).form
  have HW := Lib.hid hW
  clear hb ho OW hW xy zy
  go_upto_region 2 with (fail)
  obtain ⟨W2, hw⟩ : ∃ q, q = ((((w1.setCell ⟨w.heap.size, 0, none⟩ (S s)).setCell ⟨w.heap.size, 1, none⟩ (.int .i64 x)).setCell ⟨w.heap.size, 2, none⟩ (S cl)).setCell ⟨w.heap.size, 3, none⟩ (.slice UA ms.length UC)).setCell ⟨w.heap.size, 4, none⟩ (.int .i64 pa) := ⟨_, rfl⟩
  rw [← hw]
  have xI : Is W2 w.heap.size #[S s, .int .i64 x, S cl, .slice UA ms.length UC, .int .i64 pa] := by rw [hw]; exact is_all5 ⟨xc, xf⟩ _ _ _ _ _
  have zI : Is W2 (w.heap.size + 1) #[S [], .int .i64 0, S [], .slice none 0 0, .int .i64 0] := by rw [hw]; exact is_far5 ⟨zc, zf⟩ (by omega) _ _ _ _ _
  have hB2 : Below w.heap.size w1 W2 := by
    rw [hw]
    have hQ := Below.refl w.heap.size w1
    (repeat refine Below.setCell ?_ (by first | exact Nat.le_refl _ | (simp; done) | (simp; omega)) _)
    exact hQ
  have HO2 := Lib.hid (show OwnM W2 (w.heap.size + 2) (.slice UA ms.length UC) ms by rw [hw]; exact own_all5 HO1.out (by omega) _ _ _ _ _)
  have xz2 : w.heap.size < W2.heap.size := Nat.lt_of_lt_of_le xz hB2.size
  have zz2 : w.heap.size + 1 < W2.heap.size := Nat.lt_of_lt_of_le zz hB2.size
  have HW2 := Lib.hid (show Below w.heap.size w W2 from HW.out.trans hB2)
  have xc2 := xI.1
  clear hw hB2 HO1 HW xc xf xz zc zf zz
  go_wp2_with fail
  refine (EV.out _ _ ⟨RdL.of_own HO2.out, HP.out⟩).mono ?_
  rintro en w3 ⟨rfl, hb⟩
  replace xI := xI.up xz2 hb
  replace zI := zI.up zz2 hb
  have xz := Nat.lt_of_lt_of_le xz2 hb.size
  have zz := Nat.lt_of_lt_of_le zz2 hb.size
  have HO := Lib.hid (own_up HO2.out hb)
  have HW := Lib.hid (up_trans HW2.out hb)
  have XI := Lib.hid xI
  have ZI := Lib.hid zI
  have xc := xI.1
  have xf := xI.2
  have zc := zI.1
  have zf := zI.2
  clear hb EV HO2 HW2 xI zI xc2 xz2 zz2
  go_wp2_with fail
  go_loop [6, 7, 8] (fun nm rs i => ∃ j : Nat, j ≤ xl ∧ nm = S a ∧ rs = S [] ∧ i = .int .i64 j) (fun _ _ i => a.length - (intOf i).toNat)
  case atStart => exact ⟨0, Nat.zero_le _, rfl, rfl, rfl⟩
  case round =>
    obtain ⟨j, hj, rfl, rfl, rfl⟩ := hrel
    have i0 : (0 : Int) ≤ (j : Int) := by omega
    have hja : j < a.length := by omega
    have i2 : (j : Int) < (a.length : Int) := by omega
    by_cases hlt : j < xl
    · have d0 := HS.out j hlt hja
      go_wp2_with fail
      go_round
      case rel => exact ⟨j + 1, by omega, rfl, rfl, by go_num⟩
      case measure => simp [intOf]; omega
    obtain rfl : j = xl := by omega
    have d0 : (((a[j]).toNat : Int) == 32) = true := HX0.out
    have i3 : (j : Int) ≤ (a.length : Int) := by omega
    have i4 : (j : Int) + 1 ≤ (a.length : Int) := by omega
    have i5 : (0 : Int) ≤ (j : Int) + 1 := by omega
    have i6 : ((j : Int) + 1).toNat = j + 1 := by omega
    have t1 : a.take j = nx := HX1.out
    have t2 : a.drop (j + 1) = ny := HX2.out
    clear hlt hj HS HX0 HX1 HX2
    go_wp2_with fail
    refine (RL.out _).mono ?_
    rintro en w4 ⟨rfl, hb⟩
    replace XI := Lib.hid (XI.out.up xz hb)
    replace ZI := Lib.hid (ZI.out.up zz hb)
    replace HO := Lib.hid (own_up HO.out hb)
    replace HW := Lib.hid (up_trans HW.out hb)
    replace xz := Nat.lt_of_lt_of_le xz hb.size
    replace zz := Nat.lt_of_lt_of_le zz hb.size
    replace xc := XI.out.1
    replace xf := XI.out.2
    replace zc := ZI.out.1
    replace zf := ZI.out.2
    clear hb
    clear RL
    go_wp2_with fail
    have hrB : w.heap.size + 1 < w.heap.size + 2 := by omega
    refine bodyPost_ret (v := .tuple #[.agg #[S s, .int .i64 x, S cl, .slice UA ms.length UC, .int .i64 pa], .bool false]) (by simp [results, Tryz.results19, go_sem, zc]) rfl ⟨.slice UA ms.length UC, by rw [HN.out]; rfl, ?_, ?_⟩
    · rw [HN.out]
      exact own_base (own_all5 HO.out hrB _ _ _ _ _) (by omega)
    · have hQ := HW.out
      (repeat refine up_set ?_ _ _ (by first | exact Nat.le_refl _ | (simp; done) | (simp; omega) | omega))
      exact hQ
set_option maxRecDepth 100000 in
set_option maxHeartbeats 1000000 in
theorem sdo_run1 (e : Es) (o : List (List UInt8)) (v : Value) (a nx ny : List UInt8) (w : World) (h : RdM w v e.ms) (hin : EdIn e o) (hal : a.length ≤ 1048576) (hxy : a = nx ++ 32 :: ny) (hs : ∀ c ∈ nx, c ≠ 32) (hnm : nx = [114, 117, 110]) (hy : ny ≠ []) (y0 : List UInt8) (hrn : rnL e.s ny = some y0) :
    Calls Tryz.prog 19 #[edW e v, S a] w (EdOut w.heap.size (edDo e o (.run ny)) e w) := by
  obtain ⟨xl, hxl⟩ : ∃ xl, xl = nx.length := ⟨_, rfl⟩
  have hxa : xl < a.length := by rw [hxy, hxl]; simp
  have HS := Lib.hid (fun (j : Nat) (hj : j < xl) (hja : j < a.length) => (show (((a[j]).toNat : Int) == 32) = false from by
    subst hxy
    have e1 : (nx ++ 32 :: ny)[j] = nx[j] := List.getElem_append_left (by omega)
    rw [e1]
    exact ne32 hs (by omega)))
  have HX0 := Lib.hid (show (((a[xl]).toNat : Int) == 32) = true by subst hxy hxl; simp)
  have HX1 := Lib.hid (show a.take xl = nx by subst hxy hxl; simp)
  have HX2 := Lib.hid (show a.drop (xl + 1) = ny by subst hxy hxl; simp)
  have n0 : (nx == [112, 117, 116]) = false := by rw [hnm]; rfl
  have n1 : (nx == [108, 105, 110, 101]) = false := by rw [hnm]; rfl
  have n2 : (nx == [99, 117, 116]) = false := by rw [hnm]; rfl
  have n3 : (nx == [112, 97, 115, 116, 101]) = false := by rw [hnm]; rfl
  have n4 : (nx == [114, 105, 103, 104, 116]) = false := by rw [hnm]; rfl
  have n5 : (nx == [108, 101, 102, 116]) = false := by rw [hnm]; rfl
  have n6 : (nx == [102, 105, 110, 100]) = false := by rw [hnm]; rfl
  have n7 : (nx == [114, 117, 110]) = true := by rw [hnm]; rfl
  have np : (nx == a) = false := by
    rw [beq_eq_false_iff_ne]
    intro e1
    have := congrArg List.length e1
    omega
  have hyl : ny.length ≤ 1048576 := by rw [← HX2.out, List.length_drop]; omega
  clear hxl hs
  have hsl := tv_len hin.g.t
  have hn30 := hin.g.n30
  have hcl := tv_len hin.c
  have hok := hin.ok
  have OW := Lib.hid (fun (w' : World) (hb : Below w.heap.size w w') => l1OwnEditor_any v e.ms e.pa e.s e.x e.cl w' (h.up hb) (by omega))
  have EV := Lib.hid (fun (u : Value) (w' : World) (h' : RdM w' u e.ms) => (specEditorValid_any u e.ms e.pa e.s e.x e.cl w' h' (by omega) (by unfold maxLen; omega) (by unfold maxLen; omega)).mono fun en w2 ⟨ok, h1, h2, h3⟩ => (show en = Ending.returned (.bool true) ∧ Below w'.heap.size w' w2 from ⟨by rw [h1, h2.2 hok], h3⟩))
  have HP := Lib.hid h.2
  unfold EdOwn at OW
  have y1 : (ny == []) = false := by simpa using hy
  have y2 : ny.isEmpty = false := by simpa using hy
  have y3 : (ny != []) = true := by simpa using hy
  clear hy hnm
  have T := hin.g.t
  have RL := Lib.hid (fun w' => specRunLine_any e.s ny w' T hyl)
  unfold RlPost at RL
  have ht2 := rnL_tv T hrn
  rw [show edDo e o (.run ny) = edCh e (dfC e.s y0) e.cl by show (match rnL e.s ny with | none => none | some y => edCh e (dfC e.s y) e.cl) = _; rw [hrn]]
  rw [hrn] at RL
  simp only [Option.getD_some, Option.isSome_some] at RL
  have DC := Lib.hid (fun w => specDiffChange_any e.s y0 w T ht2)
  have hdi := dfC_in e.s y0 (tv_len T) (tv_len ht2)
  have hdp : (dfC e.s y0).p.length ≤ 1048576 := by omega
  clear hdi hrn ht2 T
  generalize dfC e.s y0 = cc at *
  have L25 := Lib.hid (fun (u : Value) (w' : World) (h' : RdM w' u e.ms) (ho' : OwnM w' (w.heap.size + 2) u e.ms) (hB' : w.heap.size + 2 ≤ w'.heap.size) => l25_any e o cc e.cl u (w.heap.size + 2) w' h' ho' hB' hin hdp)
  rw [show edCh e cc e.cl = edCh e cc e.cl from rfl] at L25
  obtain ⟨e2, he2⟩ : ∃ e2, e2 = (edCh e cc e.cl).getD e := ⟨_, rfl⟩
  obtain ⟨ok, hok2⟩ : ∃ ok, ok = (edCh e cc e.cl).isSome := ⟨_, rfl⟩
  have HE2 := Lib.hid (show (edCh e cc e.cl).getD e = e2 ∧ (edCh e cc e.cl).isSome = ok from ⟨he2.symm, hok2.symm⟩)
  unfold EdOut at L25
  rw [← he2, ← hok2] at L25
  clear he2 hok2
  generalize edCh e cc e.cl = R at *
  obtain ⟨s2, x2, cl2, ms2, pa2⟩ := e2
  unfold edW edAgg chAgg at L25
  simp only at L25
  obtain ⟨fa, fc, fp⟩ := cc
  unfold chAgg at DC
  simp only at DC L25
  clear hdp

  clear hxy
  obtain ⟨s, x, cl, ms, pa⟩ := e
  simp only at *
  unfold EdOut
  obtain ⟨A, k, rfl, _, _⟩ := h.1.form
  unfold edW
  unfold edAgg at OW EV ⊢
  clear h hin hok
  go_enter Tryz.func19, Tryz.ntmps19
  go_wp2_with fail
  refine (OW.out _ (by exact bBel)).mono ?_
  rintro en w1 ⟨u, rfl, ho, hb⟩
  have xc : ∀ o, w1.cell? ⟨w.heap.size, o, none⟩ = #[S s, .int .i64 x, S cl, .slice A ms.length k, .int .i64 pa][o]? := (fun o => (hb.cell (p := ⟨w.heap.size, o, none⟩) (by simp <;> omega)).trans (by simp [go_sem])); have xf : ∀ o, w1.frozen? ⟨w.heap.size, o, none⟩ = false := (fun o => (hb.frozen (p := ⟨w.heap.size, o, none⟩) (by simp <;> omega)).trans (by simp [go_sem])); have xz : w.heap.size < w1.heap.size := (by have := hb.size; (try simp at this); omega); have xy := xz
  have zc : ∀ o, w1.cell? ⟨w.heap.size + 1, o, none⟩ = #[S [], .int .i64 0, S [], .slice none 0 0, .int .i64 0][o]? := (fun o => (hb.cell (p := ⟨w.heap.size + 1, o, none⟩) (by simp <;> omega)).trans (by simp [go_sem])); have zf : ∀ o, w1.frozen? ⟨w.heap.size + 1, o, none⟩ = false := (fun o => (hb.frozen (p := ⟨w.heap.size + 1, o, none⟩) (by simp <;> omega)).trans (by simp [go_sem])); have zz : w.heap.size + 1 < w1.heap.size := (by have := hb.size; (try simp at this); omega); have zy := zz
  have hW : Below w.heap.size w w1 := by exact bBel
  have HO1 := Lib.hid (own_base ho (show w.heap.size + 2 ≤ _ by simp))
  obtain ⟨UA, UC, rfl, -, -⟩ := (RdL.of_own (f := moC) (bs := ms) ho).form
  have HW := Lib.hid hW
  clear hb ho OW hW xy zy
  go_upto_region 2 with (fail)
  obtain ⟨W2, hw⟩ : ∃ q, q = ((((w1.setCell ⟨w.heap.size, 0, none⟩ (S s)).setCell ⟨w.heap.size, 1, none⟩ (.int .i64 x)).setCell ⟨w.heap.size, 2, none⟩ (S cl)).setCell ⟨w.heap.size, 3, none⟩ (.slice UA ms.length UC)).setCell ⟨w.heap.size, 4, none⟩ (.int .i64 pa) := ⟨_, rfl⟩
  rw [← hw]
  have xI : Is W2 w.heap.size #[S s, .int .i64 x, S cl, .slice UA ms.length UC, .int .i64 pa] := by rw [hw]; exact is_all5 ⟨xc, xf⟩ _ _ _ _ _
  have zI : Is W2 (w.heap.size + 1) #[S [], .int .i64 0, S [], .slice none 0 0, .int .i64 0] := by rw [hw]; exact is_far5 ⟨zc, zf⟩ (by omega) _ _ _ _ _
  have hB2 : Below w.heap.size w1 W2 := by
    rw [hw]
    have hQ := Below.refl w.heap.size w1
    (repeat refine Below.setCell ?_ (by first | exact Nat.le_refl _ | (simp; done) | (simp; omega)) _)
    exact hQ
  have HO2 := Lib.hid (show OwnM W2 (w.heap.size + 2) (.slice UA ms.length UC) ms by rw [hw]; exact own_all5 HO1.out (by omega) _ _ _ _ _)
  have xz2 : w.heap.size < W2.heap.size := Nat.lt_of_lt_of_le xz hB2.size
  have zz2 : w.heap.size + 1 < W2.heap.size := Nat.lt_of_lt_of_le zz hB2.size
  have HW2 := Lib.hid (show Below w.heap.size w W2 from HW.out.trans hB2)
  have xc2 := xI.1
  clear hw hB2 HO1 HW xc xf xz zc zf zz
  go_wp2_with fail
  refine (EV.out _ _ ⟨RdL.of_own HO2.out, HP.out⟩).mono ?_
  rintro en w3 ⟨rfl, hb⟩
  replace xI := xI.up xz2 hb
  replace zI := zI.up zz2 hb
  have xz := Nat.lt_of_lt_of_le xz2 hb.size
  have zz := Nat.lt_of_lt_of_le zz2 hb.size
  have HO := Lib.hid (own_up HO2.out hb)
  have HW := Lib.hid (up_trans HW2.out hb)
  have XI := Lib.hid xI
  have ZI := Lib.hid zI
  have xc := xI.1
  have xf := xI.2
  have zc := zI.1
  have zf := zI.2
  clear hb EV HO2 HW2 xI zI xc2 xz2 zz2
  go_wp2_with fail
  go_loop [6, 7, 8] (fun nm rs i => ∃ j : Nat, j ≤ xl ∧ nm = S a ∧ rs = S [] ∧ i = .int .i64 j) (fun _ _ i => a.length - (intOf i).toNat)
  case atStart => exact ⟨0, Nat.zero_le _, rfl, rfl, rfl⟩
  case round =>
    obtain ⟨j, hj, rfl, rfl, rfl⟩ := hrel
    have i0 : (0 : Int) ≤ (j : Int) := by omega
    have hja : j < a.length := by omega
    have i2 : (j : Int) < (a.length : Int) := by omega
    by_cases hlt : j < xl
    · have d0 := HS.out j hlt hja
      go_wp2_with fail
      go_round
      case rel => exact ⟨j + 1, by omega, rfl, rfl, by go_num⟩
      case measure => simp [intOf]; omega
    obtain rfl : j = xl := by omega
    have d0 : (((a[j]).toNat : Int) == 32) = true := HX0.out
    have i3 : (j : Int) ≤ (a.length : Int) := by omega
    have i4 : (j : Int) + 1 ≤ (a.length : Int) := by omega
    have i5 : (0 : Int) ≤ (j : Int) + 1 := by omega
    have i6 : ((j : Int) + 1).toNat = j + 1 := by omega
    have t1 : a.take j = nx := HX1.out
    have t2 : a.drop (j + 1) = ny := HX2.out
    clear hlt hj HS HX0 HX1 HX2
    go_wp2_with fail
    refine (RL.out _).mono ?_
    rintro en w4 ⟨rfl, hb⟩
    replace XI := Lib.hid (XI.out.up xz hb)
    replace ZI := Lib.hid (ZI.out.up zz hb)
    replace HO := Lib.hid (own_up HO.out hb)
    replace HW := Lib.hid (up_trans HW.out hb)
    replace xz := Nat.lt_of_lt_of_le xz hb.size
    replace zz := Nat.lt_of_lt_of_le zz hb.size
    replace xc := XI.out.1
    replace xf := XI.out.2
    replace zc := ZI.out.1
    replace zf := ZI.out.2
    clear hb
    clear RL
    go_upto_region 37 with (fail)
    have HM0 : EX5 (w.heap.size + 1) w4.drew := ⟨⟨_, _, _, _, _, (show Is w4.drew (w.heap.size + 1) _ from ZI.out)⟩, zz⟩
    obtain ⟨r, hr⟩ : ∃ r, r = w.heap.size + 1 := ⟨_, rfl⟩
    obtain ⟨B0, hB0⟩ : ∃ r, r = w.heap.size + 2 := ⟨_, rfl⟩
    obtain ⟨qx, hqx⟩ : ∃ q, q = w.heap.size := ⟨_, rfl⟩
    have nxr : qx ≠ r := by omega
    have hrB : r < B0 := by omega
    have hqr : w.heap.size ≤ r := by omega
    have hqB : w.heap.size ≤ B0 := by omega
    have hB3 : B0 ≤ w4.heap.size := by omega
    have e1 : w.heap.size + 1 = r := hr.symm
    have HBE := Lib.hid hB0.symm
    rw [← hr] at HM0 zz
    simp only [e1]
    rw [show w.heap.size + 2 = B0 from HBE.out] at HO
    rw [← hqx] at xc xz ⊢
    clear zc zf hr hqx hB0 e1
    rw [show w.heap.size + 2 = B0 from HBE.out] at L25
    --EVER{spec.EditorDo;37;sdrun}
    refine wp_region_ever (R := RQ r (FX r B0 ⟨s2, x2, cl2, ms2, pa2⟩)) (M := fun _ w => EX5 r w) [qEq _ _ (.agg #[S s, .int .i64 x, S cl, .slice UA ms.length UC, .int .i64 pa]), qEq _ _ (.pointer (some ⟨qx, 0, none⟩)), qEq _ _ (S s), qEq _ _ (S y0), qEq _ _ (.agg #[.int .i64 fa, .int .i64 fc, S fp]), qEq _ _ (.pointer (some ⟨qx, 2, none⟩)), qEq _ _ (S cl), xTup r B0 hrB _ ⟨s2, x2, cl2, ms2, pa2⟩ ok, xEd r B0 hrB _ ⟨s2, x2, cl2, ms2, pa2⟩, qEq _ _ (.bool ok), qPut _ _, qEq _ _ (.bool ok)] (by kernel_rfl) (RQ.refl _ _) (fun _ _ _ => RQ.trans) (by kernel_rfl) (HM0) ?_ ?_
    · refine ⟨?_, ?_, ?_, ?_, ?_, ?_, ?_, ?_, ?_, ?_, ?_, ?_, trivial⟩
      · intro k' w' ρ hk' hR hM hF
        replace hk' : k' < 12 := hk'
        obtain ⟨f0, -⟩ := hF
        replace f0 : ρ (.tmp 2) = .pointer (some ⟨qx, 0, none⟩) := f0
        refine good_of fun K hK => ?_
        have z0 := gup_c hR.grown xz nxr xc 0; have z1 := gup_c hR.grown xz nxr xc 1; have z2 := gup_c hR.grown xz nxr xc 2; have z3 := gup_c hR.grown xz nxr xc 3; have z4 := gup_c hR.grown xz nxr xc 4; simp only [List.getElem?_toArray, List.getElem?_cons_zero, List.getElem?_cons_succ] at z0 z1 z2 z3 z4; go_simp; exact hK _ _ (RQ.refl _ _ _) hM rfl
      · intro k' w' ρ hk' hR hM hF
        replace hk' : k' < 12 := hk'
        obtain ⟨f0, -⟩ := hF
        replace f0 : ρ (.tmp 2) = .pointer (some ⟨qx, 0, none⟩) := f0
        refine good_of fun K hK => ?_
        go_simp
        exact hK _ _ (RQ.refl _ _ _) (hM) (rfl)
      · intro k' w' ρ hk' hR hM hF
        replace hk' : k' < 12 := hk'
        obtain ⟨f0, -⟩ := hF
        replace f0 : ρ (.tmp 213) = .pointer (some ⟨qx, 0, none⟩) := f0
        refine good_of fun K hK => ?_
        have z0 := gup_c hR.grown xz nxr xc 0; simp only [List.getElem?_toArray, List.getElem?_cons_zero, List.getElem?_cons_succ] at z0; go_simp; exact hK _ _ (RQ.refl _ _ _) hM rfl
      · intro k' w' ρ hk' hR hM hF
        replace hk' : k' < 12 := hk'
        obtain ⟨f0, -⟩ := hF
        replace f0 : ρ (.tmp 13) = S y0 := f0
        exact ⟨RQ.refl _ _ _, hM, f0⟩
      · intro k' w' ρ hk' hR hM hF
        replace hk' : k' < 12 := hk'
        obtain ⟨f0, f1, f2, -⟩ := hF
        replace f0 : ρ (.func _) = .func (.func _) #[] #[] := f0
        replace f1 : ρ (.tmp 214) = S s := f1
        replace f2 : ρ (.tmp 215) = S y0 := f2
        refine good_of fun K hK => ?_
        go_simp; refine (DC.out _).mono ?_; rintro en wc ⟨rfl, hb⟩; exact ⟨_, rfl, hK _ _ (rx_below hb) (hM.up hb) rfl⟩
      · intro k' w' ρ hk' hR hM hF
        replace hk' : k' < 12 := hk'
        obtain ⟨f0, -⟩ := hF
        replace f0 : ρ (.tmp 2) = .pointer (some ⟨qx, 0, none⟩) := f0
        refine good_of fun K hK => ?_
        go_simp
        exact hK _ _ (RQ.refl _ _ _) (hM) (rfl)
      · intro k' w' ρ hk' hR hM hF
        replace hk' : k' < 12 := hk'
        obtain ⟨f0, -⟩ := hF
        replace f0 : ρ (.tmp 217) = .pointer (some ⟨qx, 2, none⟩) := f0
        refine good_of fun K hK => ?_
        have z2 := gup_c hR.grown xz nxr xc 2; simp only [List.getElem?_toArray, List.getElem?_cons_zero, List.getElem?_cons_succ] at z2; go_simp; exact hK _ _ (RQ.refl _ _ _) hM rfl
      · intro k' w' ρ hk' hR hM hF
        replace hk' : k' < 12 := hk'
        obtain ⟨f0, f1, f2, f3, -⟩ := hF
        replace f0 : ρ (.func _) = .func (.func _) #[] #[] := f0
        replace f1 : ρ (.tmp 212) = .agg #[S s, .int .i64 x, S cl, .slice UA ms.length UC, .int .i64 pa] := f1
        replace f2 : ρ (.tmp 216) = .agg #[.int .i64 fa, .int .i64 fc, S fp] := f2
        replace f3 : ρ (.tmp 218) = S cl := f3
        refine good_of fun K hK => ?_
        have Q := Lib.hid (gup_own HO.out hR.grown hrB); have hsz := Nat.le_trans hB3 hR.grown.size; go_simp; refine (L25.out (.slice UA ms.length UC) _ ⟨RdL.of_own Q.out, HP.out⟩ Q.out hsz).mono ?_; rintro en wc ⟨u4, rfl, ho4, hb4⟩; exact ⟨_, rfl, hK _ _ (rx_below hb4) (hM.up hb4) ⟨u4, rfl, ho4⟩⟩
      · intro k' w' ρ hk' hR hM hF
        replace hk' : k' < 12 := hk'
        obtain ⟨f0, -⟩ := hF
        refine good_of fun K hK => ?_
        obtain ⟨u4, f0, q0⟩ := f0; replace f0 : ρ (.tmp _) = .tuple #[.agg #[S s2, .int .i64 x2, S cl2, u4, .int .i64 pa2], .bool ok] := f0; have Q0 := Lib.hid q0; clear q0; go_simp; exact hK _ _ (RQ.refl _ _ _) hM ⟨u4, rfl, Q0.out⟩
      · intro k' w' ρ hk' hR hM hF
        replace hk' : k' < 12 := hk'
        obtain ⟨f0, -⟩ := hF
        refine good_of fun K hK => ?_
        obtain ⟨u4, f0, q0⟩ := f0; replace f0 : ρ (.tmp _) = .tuple #[.agg #[S s2, .int .i64 x2, S cl2, u4, .int .i64 pa2], .bool ok] := f0; clear q0; go_simp; exact hK _ _ (RQ.refl _ _ _) hM rfl
      · intro k' w' ρ hk' hR hM hF
        replace hk' : k' < 12 := hk'
        obtain ⟨f0, f1, -⟩ := hF
        replace f0 : ρ (.tmp 4) = .pointer (some ⟨r, 0, none⟩) := f0
        refine good_of fun K hK => ?_
        obtain ⟨u4, f1, q1⟩ := f1; obtain ⟨A1, c1, rfl, -, -⟩ := (RdL.of_own (f := moC) (bs := ms2) q1).form; replace f1 : ρ (.tmp _) = .agg #[S s2, .int .i64 x2, S cl2, .slice A1 ms2.length c1, .int .i64 pa2] := f1; have BB := Lib.hid (x5_put (e := ⟨s2, x2, cl2, ms2, pa2⟩) hM hrB q1); obtain ⟨⟨u0, u1, u2, u3, u4, hI⟩, hrz⟩ := hM; have z0 := hI.1 0; have z1 := hI.1 1; have z2 := hI.1 2; have z3 := hI.1 3; have z4 := hI.1 4; have zf := hI.2; simp only [List.getElem?_toArray, List.getElem?_cons_zero, List.getElem?_cons_succ] at z0 z1 z2 z3 z4; clear hI q1; go_simp; exact hK _ _ BB.out.1 BB.out.2.1 BB.out.2.2
      · intro k' w' ρ hk' hR hM hF
        replace hk' : k' < 12 := hk'
        obtain ⟨f0, -⟩ := hF
        replace f0 : ρ (.tmp 221) = .bool ok := f0
        exact ⟨RQ.refl _ _ _, hM, f0⟩
    · intro w' hR hM
      rintro _ rfl
      rintro _ rfl
      rintro _ rfl
      rintro _ rfl
      rintro _ rfl
      rintro _ rfl
      rintro _ rfl
      rintro _ ⟨_, rfl, -⟩
      rintro _ ⟨_, rfl, -⟩
      rintro _ rfl
      rintro _ hFX
      rintro _ rfl
    --END
    --END
      dsimp only [EndAll, Act.put]
      simp only [List.setIfInBounds_toArray, List.set_cons_zero, List.set_cons_succ]
      obtain ⟨w5, rfl⟩ : ∃ z, z = w' := ⟨_, rfl⟩
      obtain ⟨u4, zI, ho4, rz⟩ := hFX
      have HW4 := Lib.hid (up_grown HW.out hR.grown (fun k hk => by injection hk with hk; omega))
      have HO4 := Lib.hid (own_base ho4 hqB)
      clear DC hR hM HM0 L25
      obtain ⟨A4, c4, rfl, -, -⟩ := (RdL.of_own (f := moC) (bs := ms2) ho4).form
      have zc := zI.1
      go_wp2_with fail
      refine bodyPost_ret (v := .tuple #[.agg #[S s2, .int .i64 x2, S cl2, .slice A4 ms2.length c4, .int .i64 pa2], .bool ok]) (by simp [results, Tryz.results19, go_sem, zc]) rfl ⟨.slice A4 ms2.length c4, by rw [HE2.out.1, HE2.out.2] <;> rfl, by rw [HE2.out.1]; exact HO4.out, HW4.out⟩

end Go.Proofs.YtbjlkdenkmbepaaGreatDoor
