/- What is proved here: the walk of the law FnEditorDo. Condition: what the library's variables hold. -/
import Derived.Test.YtbjlkdenkmbepaaGreatDoorDoF
namespace Go.Proofs.YtbjlkdenkmbepaaGreatDoor
open Go.RowKit
set_option linter.unusedVariables false

set_option maxRecDepth 100000 in
set_option maxHeartbeats 2000000 in
theorem editorDo_walk (v : Value) (n : Nat) (zs : List Int) (w : World) (h : Bytes w w.heap.size v n zs) (hL : LW w) :
    Calls Tryz.prog 10 #[v] w fun e w' => e = .returned (.bool true) ∧ Below w.heap.size w w' := by
  have h' := h
  obtain ⟨h1, h2, A, c, rfl, h3, h4, h5⟩ := h
  clear h5 h2 h1 h4
  by_cases hn : n ≤ 1048576
  case neg =>
    go_enter Tryz.func10, Tryz.ntmps10
    go_wp2_with fail
    go_ret
    exact ⟨rfl, Below.refl _ _⟩
  have hW := Below.refl w.heap.size w
  have HL := Lib.hid hL
  clear hL
  go_enter Tryz.func10, Tryz.ntmps10
  go_wp2_with fail
  refine (drawEditorDo_any _ n zs _ (h'.to (by (repeat (first | exact Below.refl _ _ | assumption | refine Below.drew ?_ | refine up_drewN ?_ _ | refine up_alloc ?_ _ | refine up_set ?_ _ _ (by first | exact Nat.le_refl _ | (simp; done) | (simp; omega) | omega) | refine up_trans ?_ (by assumption)))))).mono ?_
  rintro e w1 ⟨ed, u, a, rfl, hk, ho, hal, hb⟩
  have hB : Below w.heap.size w w1 := (by (repeat (first | exact Below.refl _ _ | assumption | refine Below.drew ?_ | refine up_drewN ?_ _ | refine up_alloc ?_ _ | refine up_set ?_ _ _ (by first | exact Nat.le_refl _ | (simp; done) | (simp; omega) | omega) | refine up_trans ?_ (by assumption)))); have sw1 := hB.size; replace hW := up_trans hW hB; clear hB
  clear hb h'
  have hrd := DrE_rd ho hk
  obtain ⟨X, ok, hF, hO⟩ := do_facts u ed a hk hal
  obtain ⟨s, x, cl, ms, pa⟩ := ed
  obtain ⟨s2, x2, cl2, ms2, pa2⟩ := X
  have hml := hk.2.2.1
  simp only at hml hrd
  obtain ⟨UA, UC, rfl, -, -⟩ := (RdL.of_own (f := moC) (bs := ms) ho).form
  have HR1 := Lib.hid hrd
  have HO := Lib.hid hO
  have hm2 := hO.1
  simp only at hm2
  have hp2 := Lib.hid hO.2.1
  have II := Lib.hid hF.1
  have SS := Lib.hid hF.2
  clear ho hrd hk hF hO
  unfold edW edAgg
  unfold edV edAgg EdGot EdDone at II
  unfold edW edAgg at SS
  simp only at II SS hp2
  go_upto_region 4 with (fail)
  obtain ⟨W2, hw⟩ : ∃ z, z = w1.alloc (.cells #[S s, .int .i64 x, S cl, .slice UA ms.length UC, .int .i64 pa] 27) := ⟨_, rfl⟩
  rw [← hw]
  have xI : Is W2 w1.heap.size #[S s, .int .i64 x, S cl, .slice UA ms.length UC, .int .i64 pa] := by rw [hw]; exact new_is w1 _ _
  have hB2 : Below w1.heap.size w1 W2 := by rw [hw]; exact up_alloc (Below.refl _ _) _
  have xz : w1.heap.size < W2.heap.size := by rw [hw]; simp
  have xc := xI.1
  have XI := Lib.hid xI
  have HR := Lib.hid (HR1.out.up hB2)
  have HW := Lib.hid (up_trans hW hB2)
  clear hw HR1 hW xI hB2
  obtain ⟨d, hd⟩ : ∃ d, d = w1.heap.size := ⟨_, rfl⟩
  rw [← hd] at xc xz XI ⊢
  clear hd
  go_wp2_with fail
  refine (II.out _ HR.out (HL.out.up HW.out)).mono ?_
  rintro e w3 ⟨u3, rfl, ho3, hb⟩
  obtain ⟨A3, c3, rfl, -, -⟩ := (RdL.of_own (f := moC) (bs := ms2) ho3).form
  replace XI := XI.out.up xz hb
  replace xz := Nat.lt_of_lt_of_le xz hb.size
  replace HR := HR.out.up hb
  replace HW := up_trans HW.out hb
  have hr3 : RdM w3 (.slice A3 ms2.length c3) ms2 := ⟨RdL.of_own ho3, hp2.out⟩
  clear hb II ho3 xc
  unfold edAgg
  go_upto_region 5 with (fail)
  obtain ⟨W4, hw⟩ : ∃ z, z = w3.alloc (.cells #[S s2, .int .i64 x2, S cl2, .slice A3 ms2.length c3, .int .i64 pa2] 27) := ⟨_, rfl⟩
  rw [← hw]
  have yI : Is W4 w3.heap.size #[S s2, .int .i64 x2, S cl2, .slice A3 ms2.length c3, .int .i64 pa2] := by rw [hw]; exact new_is w3 _ _
  have hB4 : Below w3.heap.size w3 W4 := by rw [hw]; exact up_alloc (Below.refl _ _) _
  have yz : w3.heap.size < W4.heap.size := by rw [hw]; simp
  replace XI := XI.up xz hB4
  replace xz := Nat.lt_of_lt_of_le xz hB4.size
  replace HR := Lib.hid (HR.up hB4)
  replace hr3 := Lib.hid (hr3.up hB4)
  replace HW := Lib.hid (up_trans HW hB4)
  have xc := XI.1
  clear hw hB4
  obtain ⟨p, hp⟩ : ∃ p, p = w3.heap.size := ⟨_, rfl⟩
  rw [← hp] at yI yz ⊢
  clear hp
  replace XI := Lib.hid XI
  have YI := Lib.hid yI
  clear yI
  go_wp2_with fail
  refine (SS.out _ HR.out).mono ?_
  rintro e w5 ⟨u5, rfl, ho5, hb⟩
  replace HR := HR.out.up hb
  obtain ⟨A5, c5, rfl, -, -⟩ := (RdL.of_own (f := moC) (bs := ms2) ho5).form
  have hr5 : RdM w5 (.slice A5 ms2.length c5) ms2 := ⟨RdL.of_own ho5, hp2.out⟩
  replace XI := XI.out.up xz hb
  replace xz := Nat.lt_of_lt_of_le xz hb.size
  replace YI := YI.out.up yz hb
  replace yz := Nat.lt_of_lt_of_le yz hb.size
  replace hr3 := hr3.out.up hb
  replace HW := up_trans HW.out hb
  clear hb SS ho5 xc
  go_upto_region 6 with (fail)
  obtain ⟨W6, hw⟩ : ∃ z, z = w5.alloc (.cells #[S s2, .int .i64 x2, S cl2, .slice A5 ms2.length c5, .int .i64 pa2] 27) := ⟨_, rfl⟩
  rw [← hw]
  have zI : Is W6 w5.heap.size #[S s2, .int .i64 x2, S cl2, .slice A5 ms2.length c5, .int .i64 pa2] := by rw [hw]; exact new_is w5 _ _
  have hB6 : Below w5.heap.size w5 W6 := by rw [hw]; exact up_alloc (Below.refl _ _) _
  replace XI := XI.up xz hB6
  replace xz := Nat.lt_of_lt_of_le xz hB6.size
  replace YI := YI.up yz hB6
  replace yz := Nat.lt_of_lt_of_le yz hB6.size
  replace hr3 := Lib.hid (hr3.up hB6)
  replace hr5 := Lib.hid (hr5.up hB6)
  replace HR := Lib.hid (HR.up hB6)
  replace HW := Lib.hid (up_trans HW hB6)
  have yc := YI.1
  have zc := zI.1
  have SE := Lib.hid (fun (w' : World) (h1 : RdM w' (.slice A3 ms2.length c3) ms2) (h2 : RdM w' (.slice A5 ms2.length c5) ms2) => sameEditor_same (.slice A3 ms2.length c3) (.slice A5 ms2.length c5) ms2 pa2 s2 x2 cl2 w' h1 h2)
  unfold edAgg at SE
  have hbe : (ok != ok) = false := by cases ok <;> rfl
  replace XI := Lib.hid XI
  replace YI := Lib.hid YI
  clear hw hB6 zI
  go_wp2_with fail
  refine (SE.out _ hr3.out hr5.out).mono ?_
  rintro e w7 ⟨rfl, hb⟩
  replace XI := XI.out.up xz hb
  replace xz := Nat.lt_of_lt_of_le xz hb.size
  replace YI := YI.out.up yz hb
  replace yz := Nat.lt_of_lt_of_le yz hb.size
  replace hr3 := Lib.hid (hr3.out.up hb)
  replace HR := Lib.hid (HR.out.up hb)
  replace HW := Lib.hid (up_trans HW.out hb)
  have xc := XI.1
  clear hb hr5 zc SE
  replace yc := YI.1
  replace XI := Lib.hid XI
  replace YI := Lib.hid YI
  rcases ok with _ | _
  · by_cases hl0 : ms2.length = 0
    · have hli : (ms2.length : Int) = 0 := by omega
      clear hl0
      go_wp2_with fail
      refine (alive_any _).mono ?_
      rintro e w8 ⟨rfl, rfl⟩
      go_wp2_with fail
      go_ret
      exact ⟨rfl, HW.out⟩
    · have hli : ¬ (ms2.length : Int) = 0 := by omega
      have hX := (HO.out.2.2.2 rfl).resolve_right (fun h => hl0 (by simp only at h; rw [h]; rfl))
      injection hX with q1 q2 q3 q4 q5
      subst q1 q2 q3 q4 q5
      have SE := Lib.hid (fun (w' : World) (h1 : RdM w' (.slice A3 ms2.length c3) ms2) (h2 : RdM w' (.slice UA ms2.length UC) ms2) => sameEditor_same (.slice A3 ms2.length c3) (.slice UA ms2.length UC) ms2 pa2 s2 x2 cl2 w' h1 h2)
      unfold edAgg at SE
      have hnil : ¬ ms2 = [] := fun h => hl0 (by rw [h]; rfl)
      have hlB : ((ms2.length : Int) == 0) = false := by rw [beq_eq_false_iff_ne]; exact hli
      clear HO
      go_wp2_with fail
      refine (SE.out _ hr3.out HR.out).mono ?_
      rintro e w8 ⟨rfl, hb⟩
      replace HW := up_trans HW.out hb
      clear hb SE
      go_wp2_with fail
      refine (alive_any _).mono ?_
      rintro e w9 ⟨rfl, rfl⟩
      go_wp2_with fail
      go_ret
      exact ⟨rfl, HW⟩
  · obtain ⟨o, hin, hr⟩ := HO.out.2.2.1 rfl
    obtain ⟨o2, hin2, hfst⟩ := edDo_next hin hr
    have hok1 := hin.ok
    have hok2 := hin2.ok
    have hs1 := tv_len hin.g.t
    have hc1 := tv_len hin.c
    have hs2 := tv_len hin2.g.t
    have hc2 := tv_len hin2.c
    simp only at hok1 hok2 hs1 hc1 hs2 hc2
    have IV := Lib.hid (fun (w' : World) (h' : RdM w' (.slice A3 ms2.length c3) ms2) => (show Calls Tryz.prog 17 #[.agg #[S s2, .int .i64 x2, S cl2, .slice A3 ms2.length c3, .int .i64 pa2]] w' (fun en w2 => en = .returned (.bool true) ∧ Below w'.heap.size w' w2) from (implEditorValid_any (.slice A3 ms2.length c3) ms2 pa2 s2 x2 cl2 w' h' (by omega) (by unfold maxLen; omega) (by unfold maxLen; omega)).mono (by
      rintro en w2 ⟨ok, rfl, hh, hb⟩
      rw [hh.2 hok2]
      exact ⟨rfl, hb⟩)))
    have F2 := Lib.hid (fun (w' : World) (h' : RdM w' (.slice A3 ms2.length c3) ms2) => (show Calls Tryz.prog 33 #[.agg #[S s2, .int .i64 x2, S cl2, .slice A3 ms2.length c3, .int .i64 pa2]] w' (fun en w2 => en = .returned (S (o.getD 0 [])) ∧ Below w'.heap.size w' w2) from (implEditorFirst_any (.slice A3 ms2.length c3) ms2 pa2 s2 x2 cl2 w' h' (by omega) (by unfold maxLen; omega) (by unfold maxLen; omega)).mono (by
      rintro en w2 ⟨t, rfl, -, ht, hb⟩
      rw [ht o2 hok2 hin2.g, hfst]
      exact ⟨rfl, hb⟩)))
    have F1 := Lib.hid (fun (w' : World) (h' : RdM w' (.slice UA ms.length UC) ms) => (show Calls Tryz.prog 33 #[.agg #[S s, .int .i64 x, S cl, .slice UA ms.length UC, .int .i64 pa]] w' (fun en w2 => en = .returned (S (o.getD 0 [])) ∧ Below w'.heap.size w' w2) from (implEditorFirst_any (.slice UA ms.length UC) ms pa s x cl w' h' (by omega) (by unfold maxLen; omega) (by unfold maxLen; omega)).mono (by
      rintro en w2 ⟨t, rfl, -, ht, hb⟩
      rw [ht o hok1 hin.g]
      exact ⟨rfl, hb⟩)))
    generalize o.getD 0 [] = tf at IV F2 F1
    by_cases hlen : ms.length < ms2.length
    · have hli : (ms.length : Int) < (ms2.length : Int) := by omega
      obtain ⟨ch, h2, hm, hpp, -, -, -⟩ : ∃ ch, _ := (edDo_in hin hr).resolve_left (fun h => by have := h.2; simp only at this; rw [this] at hlen; omega)
      obtain ⟨e3, r3, q1, q2, q3⟩ := ch_undo hin h2 hm hpp
      obtain ⟨s3, x3, cl3, ms3, pa3⟩ := e3
      simp only at q1 q2 q3
      obtain rfl := q3
      obtain rfl := q1
      have UN := Lib.hid (fun (w' : World) (h : RdM w' (.slice A3 ms3.length c3) ms3) (hL : LW w') => (show Calls Tryz.prog 21 #[.agg #[S s2, .int .i64 x2, S cl2, .slice A3 ms3.length c3, .int .i64 pa2], .string ⟨#[117, 110, 100, 111]⟩] w' (EdGot ⟨s3, x3, cl3, ms3, pa3⟩ true w') from by
        have := implEditorDo_any (.slice A3 ms3.length c3) _ _ [117, 110, 100, 111] w' h h2 (by decide) hL
        rw [show akOf [117, 110, 100, 111] = .undo from rfl, r3] at this
        exact this))
      unfold EdGot EdDone edAgg at UN
      simp only at UN
      clear hin hr h2 hm hpp r3 q2 HO hin2 hfst hok1 hok2 hs1 hc1 hs2 hc2 hlen
      go_wp2_with fail
      refine (UN.out _ hr3.out (HL.out.up HW.out)).mono ?_
      rintro e w8 ⟨u8, rfl, ho8, hb⟩
      obtain ⟨A8, c8, rfl, -, -⟩ := (RdL.of_own (f := moC) (bs := ms3) ho8).form
      replace XI := XI.out.up xz hb
      replace xz := Nat.lt_of_lt_of_le xz hb.size
      replace YI := YI.out.up yz hb
      replace yz := Nat.lt_of_lt_of_le yz hb.size
      replace hr3 := hr3.out.up hb
      replace HR := HR.out.up hb
      replace HW := up_trans HW.out hb
      clear hb UN ho8 xc yc
      go_upto_region 12 with (fail)
      obtain ⟨W9, hw⟩ : ∃ z, z = w8.alloc (.cells #[S s3, .int .i64 x3, S cl3, .slice A8 ms3.length c8, .int .i64 pa3] 27) := ⟨_, rfl⟩
      rw [← hw]
      have zI : Is W9 w8.heap.size #[S s3, .int .i64 x3, S cl3, .slice A8 ms3.length c8, .int .i64 pa3] := by rw [hw]; exact new_is w8 _ _
      have hB9 : Below w8.heap.size w8 W9 := by rw [hw]; exact up_alloc (Below.refl _ _) _
      replace XI := XI.up xz hB9
      replace xz := Nat.lt_of_lt_of_le xz hB9.size
      replace YI := YI.up yz hB9
      replace yz := Nat.lt_of_lt_of_le yz hB9.size
      replace hr3 := Lib.hid (hr3.up hB9)
      replace HR := Lib.hid (HR.up hB9)
      replace HW := Lib.hid (up_trans HW hB9)
      have xc := XI.1
      have yc := YI.1
      have zc := zI.1
      replace XI := Lib.hid XI
      replace YI := Lib.hid YI
      clear hw hB9 zI
      go_upto_region 14 with (fail)
      have hne := UpW.nonempty W9
      have C1 := Lib.hid (fun y : UpW W9 => calls_up (IV.out (y.at W9) (hr3.out.up y.below)))
      have C2 := Lib.hid (fun y : UpW W9 => calls_up (F2.out (y.at W9) (hr3.out.up y.below)))
      have C3 := Lib.hid (fun y : UpW W9 => calls_up (F1.out (y.at W9) (HR.out.up y.below)))
      clear IV F2 F1 XI YI
      refine wp_region_up_lit (by kernel_rfl) (by kernel_rfl) ?_
      repeat (go_big_quiet_step (first | (go_at_call 17; exact C1.out _) | (go_at_call 33; first | with_reducible exact C2.out _ | with_reducible exact C3.out _)))
      refine wpQuiet_nil ?_
      intro w20 hb
      replace hb := UpW.out hb
      have HW20 := Lib.hid (up_trans HW.out hb)
      clear hb hne C1 C2 C3 hr3 HR
      go_wp2_with fail
      go_ret
      exact ⟨rfl, HW20.out⟩
    · have hli : ¬ (ms.length : Int) < (ms2.length : Int) := by omega
      clear HO hin hr hin2 hfst hok1 hok2 hs1 hc1 hs2 hc2 hlen
      go_upto_region 14 with (fail)
      have hne := UpW.nonempty w7
      have C1 := Lib.hid (fun y : UpW w7 => calls_up (IV.out (y.at w7) (hr3.out.up y.below)))
      have C2 := Lib.hid (fun y : UpW w7 => calls_up (F2.out (y.at w7) (hr3.out.up y.below)))
      have C3 := Lib.hid (fun y : UpW w7 => calls_up (F1.out (y.at w7) (HR.out.up y.below)))
      clear IV F2 F1 XI YI
      refine wp_region_up_lit (by kernel_rfl) (by kernel_rfl) ?_
      repeat (go_big_quiet_step (first | (go_at_call 17; exact C1.out _) | (go_at_call 33; first | with_reducible exact C2.out _ | with_reducible exact C3.out _)))
      refine wpQuiet_nil ?_
      intro w20 hb
      replace hb := UpW.out hb
      have HW20 := Lib.hid (up_trans HW.out hb)
      clear hb hne C1 C2 C3 hr3 HR
      go_wp2_with fail
      go_ret
      exact ⟨rfl, HW20.out⟩

end Go.Proofs.YtbjlkdenkmbepaaGreatDoor
