/- What is proved here: the walk of the law FnEditorFirst. No condition. -/
import Derived.Test.YtbjlkdenkmbepaaGreatDoorL20E
import Derived.Test.YtbjlkdenkmbepaaGreatDoorDo4
import Derived.Test.YtbjlkdenkmbepaaGreatDoorLin2
namespace Go.Proofs.YtbjlkdenkmbepaaGreatDoor
open Go.RowKit
set_option linter.unusedVariables false

theorem edUndo_any (v : Value) (e : Es) (o : List (List UInt8)) (w : World) (h : RdM w v e.ms) (hin : EdIn e o) :
    Calls Tryz.prog 21 #[edV e v, .string ⟨#[117, 110, 100, 111]⟩] w (EdGot ((edDo e o .undo).getD e) (edDo e o .undo).isSome w) :=
  implEditorDo_lift _ v e (edDo e o .undo) w h hin.ok (fun e2 he => by
    obtain ⟨o2, h2, _⟩ := edDo_next hin he
    have := h2.g.n30
    omega) (fun b w' hb hE => by
    obtain ⟨k, hk⟩ : ∃ k : Nat, e.pa = k := ⟨e.pa.toNat, by have := hin.g.a0; omega⟩
    unfold EdB at hE
    have hg := hin.g
    rw [hk] at hE hg
    refine (do_undo b e.s e.x e.cl e.ms k o w' hE hg).mono fun en w2 hp => ?_
    obtain ⟨h1, h2, h3, h4⟩ := hp
    rw [show edDo e o .undo = edTo e o (e.ms.getD k m0).par by show edTo e o (e.ms.getD e.pa.toNat m0).par = _; rw [hk, Int.toNat_natCast]]
    unfold edTo
    unfold toText toAt at h3
    generalize (e.ms.getD k m0).par = p at *
    rcases hi : inB p 0 ((e.ms.length : Int) - 1) with _ | _
    · rw [hi] at h1
      exact ⟨h1, h2, fun e2 he => by simp at he⟩
    · rw [hi] at h1 h3
      exact ⟨h1, h2, fun e2 he => by
        simp only [if_true, Option.some.injEq] at he
        subst he
        exact h3 rfl⟩)

set_option maxRecDepth 100000 in
set_option maxHeartbeats 2000000 in
theorem editorFirst_walk (v : Value) (n : Nat) (zs : List Int) (w : World) (h : Bytes w w.heap.size v n zs) :
    Calls Tryz.prog 11 #[v] w fun e w' => e = .returned (.bool true) ∧ Below w.heap.size w w' := by
  have h' := h
  obtain ⟨h1, h2, A, c, rfl, h3, h4, h5⟩ := h
  clear h5 h2 h1 h4
  by_cases hn : n ≤ 1048576
  case neg =>
    go_enter Tryz.func11, Tryz.ntmps11
    go_wp2_with fail
    go_ret
    exact ⟨rfl, Below.refl _ _⟩
  have hW := Below.refl w.heap.size w
  go_enter Tryz.func11, Tryz.ntmps11
  go_wp2_with fail
  refine (drawEditorFirst_any _ n zs _ (h'.to (by (repeat (first | exact Below.refl _ _ | assumption | refine Below.drew ?_ | refine up_drewN ?_ _ | refine up_alloc ?_ _ | refine up_set ?_ _ _ (by first | exact Nat.le_refl _ | (simp; done) | (simp; omega) | omega) | refine up_trans ?_ (by assumption)))))).mono ?_
  rintro e w1 ⟨ed, u, rfl, hk, ho, hb⟩
  have hB : Below w.heap.size w w1 := (by (repeat (first | exact Below.refl _ _ | assumption | refine Below.drew ?_ | refine up_drewN ?_ _ | refine up_alloc ?_ _ | refine up_set ?_ _ _ (by first | exact Nat.le_refl _ | (simp; done) | (simp; omega) | omega) | refine up_trans ?_ (by assumption)))); have sw1 := hB.size; replace hW := up_trans hW hB; clear hB
  clear hb h'
  have hrd := DrE_rd ho hk
  obtain ⟨k1, k2, k3, k4⟩ := hk
  obtain ⟨s, x, cl, ms, pa⟩ := ed
  simp only at *
  obtain ⟨UA, UC, rfl, -, -⟩ := (RdL.of_own (f := moC) (bs := ms) ho).form
  have HR1 := Lib.hid hrd
  have hsl : s.length ≤ maxLen := by unfold maxLen; omega
  have hcl : cl.length ≤ maxLen := by unfold maxLen; omega
  clear ho hrd k4
  unfold edW edAgg
  simp only
  go_upto_region 4 with (fail)
  obtain ⟨W2, hw⟩ : ∃ z, z = w1.alloc (.cells #[S s, .int .i64 x, S cl, .slice UA ms.length UC, .int .i64 pa] 27) := ⟨_, rfl⟩
  rw [← hw]
  have xI : Is W2 w1.heap.size #[S s, .int .i64 x, S cl, .slice UA ms.length UC, .int .i64 pa] := by rw [hw]; exact new_is w1 _ _
  have hB2 : Below w1.heap.size w1 W2 := by rw [hw]; exact up_alloc (Below.refl _ _) _
  have xz : w1.heap.size < W2.heap.size := by rw [hw]; simp
  have xc := xI.1
  have XI := Lib.hid xI
  have HR := Lib.hid (HR1.out.up hB2)
  have HW := Lib.hid (up_trans hW hB2)
  clear hw HR1 hW xI hB2
  have EV := Lib.hid (fun (w' : World) (h' : RdM w' (.slice UA ms.length UC) ms) => specEditorValid_any (.slice UA ms.length UC) ms pa s x cl w' h' (by omega) hsl hcl)
  have IF := Lib.hid (fun (w' : World) (h' : RdM w' (.slice UA ms.length UC) ms) => implEditorFirst_any (.slice UA ms.length UC) ms pa s x cl w' h' (by omega) hsl hcl)
  have SF := Lib.hid (fun (w' : World) (h' : RdM w' (.slice UA ms.length UC) ms) => specEditorFirst_any (.slice UA ms.length UC) ms pa s x cl w' h' (by omega) hsl hcl)
  unfold edAgg at EV IF SF
  unfold EvPost at EV
  unfold EfPost at IF SF
  obtain ⟨d, hd⟩ : ∃ d, d = w1.heap.size := ⟨_, rfl⟩
  have hwd : w.heap.size ≤ d := by omega
  rw [← hd] at xc xz XI ⊢
  clear hd
  go_wp2_with fail
  refine (IF.out _ HR.out).mono ?_
  rintro e w3 ⟨t, rfl, t1, t2, hb⟩
  replace xc := up_c hb xz xc
  replace XI := Lib.hid (XI.out.up xz hb)
  replace xz := Nat.lt_of_lt_of_le xz hb.size
  replace HR := Lib.hid (HR.out.up hb)
  replace HW := Lib.hid (up_trans HW.out hb)
  clear hb IF
  go_wp2_with fail
  refine (SF.out _ HR.out).mono ?_
  rintro e w4 ⟨t', rfl, t3, t4, hb⟩
  obtain rfl : t = t' := ef_same t1 t2 t3 t4
  have HT1 := Lib.hid t1
  have HT2 := Lib.hid t2
  replace xc := up_c hb xz xc
  replace XI := Lib.hid (XI.out.up xz hb)
  replace xz := Nat.lt_of_lt_of_le xz hb.size
  replace HR := Lib.hid (HR.out.up hb)
  replace HW := Lib.hid (up_trans HW.out hb)
  clear hb SF t1 t2 t3 t4
  go_wp2_with fail
  refine (EV.out _ HR.out).mono ?_
  rintro e w5 ⟨ok, rfl, hh, hb⟩
  have HH := Lib.hid hh
  replace xc := up_c hb xz xc
  replace XI := Lib.hid (XI.out.up xz hb)
  replace xz := Nat.lt_of_lt_of_le xz hb.size
  replace HR := Lib.hid (HR.out.up hb)
  replace HW := Lib.hid (up_trans HW.out hb)
  clear hb EV hh
  rcases ok with _ | _
  · obtain rfl : t = [] := HT1.out (fun hok => by have := HH.out.2 hok; cases this)
    clear HT1 HT2 HH
    go_wp2_with fail
    refine (alive_any _).mono ?_
    rintro e w6 ⟨rfl, rfl⟩
    go_wp2_with fail
    go_ret
    exact ⟨rfl, HW.out⟩
  · have hok := HH.out.1 rfl
    obtain ⟨o, hin⟩ := edIn_of (e := ⟨s, x, cl, ms, pa⟩) hok
    have HT := Lib.hid (show t = o.getD 0 [] from HT2.out o hok hin.g)
    have HIN := Lib.hid hin
    have hpa : pa ≤ 29 := by have h1 := hin.g.a1; have h2 := hin.g.n30; simp only at h1 h2; omega
    clear HT1 HT2 HH hok hin
    go_wp2_with fail
    go_loopw [5, 6, 7] (fun i v6 v7 wr => ∃ (j : Nat) (en : Es) (u x6 x7 : Value), v6 = x6 ∧ v7 = x7 ∧ j ≤ 31 ∧ i = .int .i64 j ∧ en.pa + j ≤ 29 ∧ Hid (Is wr d #[S en.s, .int .i64 en.x, S en.cl, u, .int .i64 en.pa]) ∧ Hid (RdM wr u en.ms) ∧ Hid (EdIn en o) ∧ Hid (Below w.heap.size w wr) ∧ d < wr.heap.size) (fun i _ _ _ => 31 - (intOf i).toNat)
    case atStart => exact ⟨0, ⟨s, x, cl, ms, pa⟩, _, _, _, rfl, rfl, by omega, rfl, by simpa using hpa, XI, HR, HIN, HW, xz⟩
    case round =>
      obtain ⟨j, en, u, x6, x7, rfl, rfl, hj, rfl, hpj, XIr, HRr, HINr, HWr, xzr⟩ := hrel
      clear XI HR HIN HW xz xc hpa
      have hpa0 := HINr.out.g.a0
      have i1 : (j : Int) ≤ 30 := by omega
      obtain ⟨s1, x1, cl1, ms1, pa1⟩ := en
      simp only at hpj hpa0 XIr HRr
      obtain ⟨A1, c1, rfl, -, -⟩ := HRr.out.1.form
      have U := Lib.hid (edUndo_any (.slice A1 ms1.length c1) ⟨s1, x1, cl1, ms1, pa1⟩ o wr HRr.out HINr.out)
      unfold EdGot EdDone edV edAgg at U
      have xc := XIr.out.1
      have xf := XIr.out.2
      cases hr : edDo ⟨s1, x1, cl1, ms1, pa1⟩ o .undo with
      | none =>
        rw [hr] at U
        obtain ⟨p0, p1⟩ := undo_stop HINr.out hr
        have HS := Lib.hid (show s1 = t by rw [HT.out]; exact p1)
        simp only [Option.getD_none, Option.isSome_none] at U p0
        obtain rfl := p0
        obtain rfl := HS.out
        clear HS p1 hr
        go_wp2_with fail
        refine U.out.mono ?_
        rintro e w6 ⟨u6, rfl, ho6, hb⟩
        obtain ⟨A6, c6, rfl, -, -⟩ := (RdL.of_own (f := moC) (bs := ms1) ho6).form
        replace xc := up_c hb xzr xc
        have xz6 := Nat.lt_of_lt_of_le xzr hb.size
        have HW6 := Lib.hid (up_alloc (up_trans HWr.out hb) (.cells #[S s1, .int .i64 x1, S cl1, .slice A6 ms1.length c6, .int .i64 0] 27))
        clear hb U ho6 xf XIr HRr HINr HWr
        go_wp2_with fail
        go_ret
        exact ⟨rfl, HW6.out⟩
      | some e2 =>
        rw [hr] at U
        obtain ⟨hin2, hlt⟩ := undo_less HINr.out hr
        obtain ⟨s2, x2, cl2, ms2, pa2⟩ := e2
        simp only [Option.getD_some, Option.isSome_some] at U hlt
        have HIN2 := Lib.hid hin2
        clear hr hin2
        go_wp2_with fail
        refine U.out.mono ?_
        rintro e w6 ⟨u6, rfl, ho6, hb⟩
        obtain ⟨A6, c6, rfl, -, -⟩ := (RdL.of_own (f := moC) (bs := ms2) ho6).form
        have hr6 : RdM w6 (.slice A6 ms2.length c6) ms2 := rdM_good ho6 HIN2.out.g
        have HO6 := Lib.hid ho6
        have HP := Lib.hid hr6.2
        replace XIr := Lib.hid (XIr.out.up xzr hb)
        have xz6 := Nat.lt_of_lt_of_le xzr hb.size
        replace HWr := Lib.hid (up_trans HWr.out hb)
        clear hb U ho6 hr6 xc xf HRr HINr
        go_upto_region 14 with (fail)
        obtain ⟨W7, hw⟩ : ∃ z, z = w6.alloc (.cells #[S s2, .int .i64 x2, S cl2, .slice A6 ms2.length c6, .int .i64 pa2] 27) := ⟨_, rfl⟩
        rw [← hw]
        have hb7 : Below w6.heap.size w6 W7 := by rw [hw]; exact up_alloc (Below.refl _ _) _
        have yI : Is W7 w6.heap.size #[S s2, .int .i64 x2, S cl2, .slice A6 ms2.length c6, .int .i64 pa2] := by rw [hw]; exact new_is w6 _ _
        have yz : w6.heap.size < W7.heap.size := by rw [hw]; simp
        have xI7 := XIr.out.up xz6 hb7
        have xz7 := Nat.lt_of_lt_of_le xz6 hb7.size
        have yc := yI.1
        have xc := xI7.1
        have xf := xI7.2
        have hne1 : ¬ d = w6.heap.size := by omega
        have hne2 : ¬ w6.heap.size = d := by omega
        have ZI := Lib.hid (is_all5 xI7 (S s2) (.int .i64 x2) (S cl2) (.slice A6 ms2.length c6) (.int .i64 pa2))
        have ZO := Lib.hid (own_all5 (own_up HO6.out hb7) xzr (S s2) (.int .i64 x2) (S cl2) (.slice A6 ms2.length c6) (.int .i64 pa2))
        have ZW := Lib.hid (show Below w.heap.size w (((((W7.setCell ⟨d, 0, none⟩ (S s2)).setCell ⟨d, 1, none⟩ (.int .i64 x2)).setCell ⟨d, 2, none⟩ (S cl2)).setCell ⟨d, 3, none⟩ (.slice A6 ms2.length c6)).setCell ⟨d, 4, none⟩ (.int .i64 pa2)) by
          have hQ := up_trans HWr.out hb7
          (repeat refine up_set ?_ _ _ hwd)
          exact hQ)
        have zz : d < (((((W7.setCell ⟨d, 0, none⟩ (S s2)).setCell ⟨d, 1, none⟩ (.int .i64 x2)).setCell ⟨d, 2, none⟩ (S cl2)).setCell ⟨d, 3, none⟩ (.slice A6 ms2.length c6)).setCell ⟨d, 4, none⟩ (.int .i64 pa2)).heap.size := by simpa [World.setCell] using xz7
        clear hw hb7 yI xI7 HO6 HWr XIr
        go_wp2_with fail
        go_roundw
        case rel => exact ⟨j + 1, ⟨s2, x2, cl2, ms2, pa2⟩, _, _, _, rfl, rfl, by omega, by go_num, by simp only at hlt ⊢; omega, ZI, Lib.hid ⟨RdL.of_own ZO.out, HP.out⟩, HIN2, ZW, zz⟩
        case measure => simp [intOf]; omega

end Go.Proofs.YtbjlkdenkmbepaaGreatDoor
