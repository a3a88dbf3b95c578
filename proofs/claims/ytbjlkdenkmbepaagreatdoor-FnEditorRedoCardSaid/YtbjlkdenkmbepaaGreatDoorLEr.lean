/- What is proved here: the walk of the law FnEditorRedo. Condition: what the library's variables hold. -/
import Derived.Test.YtbjlkdenkmbepaaGreatDoorDoF
namespace Go.Proofs.YtbjlkdenkmbepaaGreatDoor
open Go.RowKit
set_option linter.unusedVariables false

set_option maxRecDepth 100000 in
set_option maxHeartbeats 2000000 in
theorem editorRedo_walk (v : Value) (n : Nat) (zs : List Int) (w : World) (h : Bytes w w.heap.size v n zs) (hL : LW w) :
    Calls Tryz.prog 9 #[v] w fun e w' => e = .returned (.bool true) ∧ Below w.heap.size w w' := by
  have h' := h
  obtain ⟨h1, h2, A, c, rfl, h3, h4, h5⟩ := h
  clear h5 h2 h1 h4
  by_cases hn : n ≤ 1048576
  case neg =>
    go_enter Tryz.func9, Tryz.ntmps9
    go_wp2_with fail
    go_ret
    exact ⟨rfl, Below.refl _ _⟩
  have hW := Below.refl w.heap.size w
  have HL := Lib.hid hL
  clear hL
  go_enter Tryz.func9, Tryz.ntmps9
  go_wp2_with fail
  refine (drawEditorDo_any _ n zs _ (h'.to (by (repeat (first | exact Below.refl _ _ | assumption | refine Below.drew ?_ | refine up_drewN ?_ _ | refine up_alloc ?_ _ | refine up_set ?_ _ _ (by first | exact Nat.le_refl _ | (simp; done) | (simp; omega) | omega) | refine up_trans ?_ (by assumption)))))).mono ?_
  rintro e w1 ⟨ed, u, a, rfl, hk, ho, hal, hb⟩
  have hB : Below w.heap.size w w1 := (by (repeat (first | exact Below.refl _ _ | assumption | refine Below.drew ?_ | refine up_drewN ?_ _ | refine up_alloc ?_ _ | refine up_set ?_ _ _ (by first | exact Nat.le_refl _ | (simp; done) | (simp; omega) | omega) | refine up_trans ?_ (by assumption)))); have sw1 := hB.size; replace hW := up_trans hW hB; clear hB
  clear hb h'
  have hrd := DrE_rd ho hk
  obtain ⟨X, ok, hF, hO⟩ := do_facts u ed a hk hal
  obtain ⟨s, x, cl, ms, pa⟩ := ed
  obtain ⟨s2, x2, cl2, ms2, pa2⟩ := X
  have hml := hk.2.2.1
  simp only at hml hrd
  obtain ⟨UA, UC, rfl, -, -⟩ := (RdL.of_own (f := moC) (bs := ms) ho).form
  have HR1 := Lib.hid hrd
  have HO := Lib.hid hO
  have hm2 := hO.1
  simp only at hm2
  have hp2 := Lib.hid hO.2.1
  have II := Lib.hid hF.1
  have SS := Lib.hid hF.2
  clear ho hrd hk hF hO
  unfold edW edAgg
  unfold edV edAgg EdGot EdDone at II
  unfold edW edAgg at SS
  simp only at II SS hp2
  go_upto_region 4 with (fail)
  obtain ⟨W2, hw⟩ : ∃ z, z = w1.alloc (.cells #[S s, .int .i64 x, S cl, .slice UA ms.length UC, .int .i64 pa] 27) := ⟨_, rfl⟩
  rw [← hw]
  have xI : Is W2 w1.heap.size #[S s, .int .i64 x, S cl, .slice UA ms.length UC, .int .i64 pa] := by rw [hw]; exact new_is w1 _ _
  have hB2 : Below w1.heap.size w1 W2 := by rw [hw]; exact up_alloc (Below.refl _ _) _
  have xz : w1.heap.size < W2.heap.size := by rw [hw]; simp
  have xc := xI.1
  have XI := Lib.hid xI
  have HR := Lib.hid (HR1.out.up hB2)
  have HW := Lib.hid (up_trans hW hB2)
  clear hw HR1 hW xI hB2
  obtain ⟨d, hd⟩ : ∃ d, d = w1.heap.size := ⟨_, rfl⟩
  rw [← hd] at xc xz XI ⊢
  clear hd
  go_wp2_with fail
  refine (II.out _ HR.out (HL.out.up HW.out)).mono ?_
  rintro e w3 ⟨u3, rfl, ho3, hb⟩
  obtain ⟨A3, c3, rfl, -, -⟩ := (RdL.of_own (f := moC) (bs := ms2) ho3).form
  replace XI := XI.out.up xz hb
  replace xz := Nat.lt_of_lt_of_le xz hb.size
  replace HR := HR.out.up hb
  replace HW := up_trans HW.out hb
  have hr3 : RdM w3 (.slice A3 ms2.length c3) ms2 := ⟨RdL.of_own ho3, hp2.out⟩
  clear hb II ho3 xc
  unfold edAgg
  go_upto_region 5 with (fail)
  obtain ⟨W4, hw⟩ : ∃ z, z = w3.alloc (.cells #[S s2, .int .i64 x2, S cl2, .slice A3 ms2.length c3, .int .i64 pa2] 27) := ⟨_, rfl⟩
  rw [← hw]
  have yI : Is W4 w3.heap.size #[S s2, .int .i64 x2, S cl2, .slice A3 ms2.length c3, .int .i64 pa2] := by rw [hw]; exact new_is w3 _ _
  have hB4 : Below w3.heap.size w3 W4 := by rw [hw]; exact up_alloc (Below.refl _ _) _
  have yz : w3.heap.size < W4.heap.size := by rw [hw]; simp
  replace XI := XI.up xz hB4
  replace xz := Nat.lt_of_lt_of_le xz hB4.size
  replace HR := Lib.hid (HR.up hB4)
  replace hr3 := Lib.hid (hr3.up hB4)
  replace HW := Lib.hid (up_trans HW hB4)
  have xc := XI.1
  clear hw hB4
  obtain ⟨p, hp⟩ : ∃ p, p = w3.heap.size := ⟨_, rfl⟩
  rw [← hp] at yI yz ⊢
  clear hp
  replace XI := Lib.hid XI
  have YI := Lib.hid yI
  clear yI
  go_wp2_with fail
  refine (SS.out _ HR.out).mono ?_
  rintro e w5 ⟨u5, rfl, ho5, hb⟩
  obtain ⟨A5, c5, rfl, -, -⟩ := (RdL.of_own (f := moC) (bs := ms2) ho5).form
  have hr5 : RdM w5 (.slice A5 ms2.length c5) ms2 := ⟨RdL.of_own ho5, hp2.out⟩
  replace XI := XI.out.up xz hb
  replace xz := Nat.lt_of_lt_of_le xz hb.size
  replace YI := YI.out.up yz hb
  replace yz := Nat.lt_of_lt_of_le yz hb.size
  replace hr3 := hr3.out.up hb
  replace HW := up_trans HW.out hb
  clear hb SS ho5 xc HR
  go_upto_region 6 with (fail)
  obtain ⟨W6, hw⟩ : ∃ z, z = w5.alloc (.cells #[S s2, .int .i64 x2, S cl2, .slice A5 ms2.length c5, .int .i64 pa2] 27) := ⟨_, rfl⟩
  rw [← hw]
  have zI : Is W6 w5.heap.size #[S s2, .int .i64 x2, S cl2, .slice A5 ms2.length c5, .int .i64 pa2] := by rw [hw]; exact new_is w5 _ _
  have hB6 : Below w5.heap.size w5 W6 := by rw [hw]; exact up_alloc (Below.refl _ _) _
  replace XI := XI.up xz hB6
  replace xz := Nat.lt_of_lt_of_le xz hB6.size
  replace YI := YI.up yz hB6
  replace yz := Nat.lt_of_lt_of_le yz hB6.size
  replace hr3 := Lib.hid (hr3.up hB6)
  replace hr5 := Lib.hid (hr5.up hB6)
  replace HW := Lib.hid (up_trans HW hB6)
  have yc := YI.1
  have zc := zI.1
  have SE := Lib.hid (fun (w' : World) (h1 : RdM w' (.slice A3 ms2.length c3) ms2) (h2 : RdM w' (.slice A5 ms2.length c5) ms2) => sameEditor_same (.slice A3 ms2.length c3) (.slice A5 ms2.length c5) ms2 pa2 s2 x2 cl2 w' h1 h2)
  unfold edAgg at SE
  have hbe : (ok != ok) = false := by cases ok <;> rfl
  replace XI := Lib.hid XI
  replace YI := Lib.hid YI
  clear hw hB6 zI
  go_wp2_with fail
  refine (SE.out _ hr3.out hr5.out).mono ?_
  rintro e w7 ⟨rfl, hb⟩
  replace XI := XI.out.up xz hb
  replace xz := Nat.lt_of_lt_of_le xz hb.size
  replace YI := YI.out.up yz hb
  replace yz := Nat.lt_of_lt_of_le yz hb.size
  replace hr3 := Lib.hid (hr3.out.up hb)
  replace HW := Lib.hid (up_trans HW.out hb)
  have xc := XI.1
  clear hb hr5 zc SE
  replace yc := YI.1
  replace XI := Lib.hid XI
  replace YI := Lib.hid YI
  rcases ok with _ | _
  · go_wp2_with fail
    refine (alive_any _).mono ?_
    rintro e w8 ⟨rfl, rfl⟩
    go_wp2_with fail
    go_ret
    exact ⟨rfl, HW.out⟩
  · by_cases hlen : ms2.length = ms.length
    · have hli : (ms2.length : Int) = (ms.length : Int) := by omega
      go_wp2_with fail
      refine (alive_any _).mono ?_
      rintro e w8 ⟨rfl, rfl⟩
      go_wp2_with fail
      go_ret
      exact ⟨rfl, HW.out⟩
    · have hli : ¬ (ms2.length : Int) = (ms.length : Int) := by omega
      obtain ⟨o, hin, hr⟩ := HO.out.2.2.1 rfl
      obtain ⟨ch, h2, hm, hpp, -, -, -⟩ : ∃ ch, _ := (edDo_in hin hr).resolve_left (fun h => hlen (by have := h.2; simp only at this; rw [this]))
      obtain ⟨e3, r3, q1, q2, q3⟩ := ch_undo hin h2 hm hpp
      obtain ⟨hin3, -⟩ := undo_less h2 r3
      obtain ⟨e4, r4, q4, q5⟩ := ch_redo hin h2 hm hpp q2 q3
      obtain ⟨s3, x3, cl3, ms3, pa3⟩ := e3
      obtain ⟨s4, x4, cl4, ms4, pa4⟩ := e4
      simp only at q1 q2 q3 q4 q5
      obtain rfl := q4
      obtain rfl := q5
      obtain rfl := q3
      have UN := Lib.hid (fun (w' : World) (h : RdM w' (.slice A3 ms3.length c3) ms3) (hL : LW w') => (show Calls Tryz.prog 21 #[.agg #[S s4, .int .i64 x2, S cl2, .slice A3 ms3.length c3, .int .i64 pa4], .string ⟨#[117, 110, 100, 111]⟩] w' (EdGot ⟨s3, x3, cl3, ms3, pa3⟩ true w') from by
        have := implEditorDo_any (.slice A3 ms3.length c3) _ _ [117, 110, 100, 111] w' h h2 (by decide) hL
        rw [show akOf [117, 110, 100, 111] = .undo from rfl, r3] at this
        exact this))
      have RE := Lib.hid (fun (u' : Value) (w' : World) (h : RdM w' u' ms3) (hL : LW w') => (show Calls Tryz.prog 21 #[.agg #[S s3, .int .i64 x3, S cl3, u', .int .i64 pa3], .string ⟨#[114, 101, 100, 111]⟩] w' (EdGot ⟨s4, x4, cl4, ms4, pa4⟩ true w') from by
        have := implEditorDo_any u' _ _ [114, 101, 100, 111] w' h hin3 (by decide) hL
        rw [show akOf [114, 101, 100, 111] = .redo from rfl, r4] at this
        exact this))
      unfold EdGot EdDone edAgg at UN RE
      simp only at UN RE
      clear hin hr h2 hm hpp r3 r4 hin3 q1 q2 HO
      go_wp2_with fail
      refine (UN.out _ hr3.out (HL.out.up HW.out)).mono ?_
      rintro e w8 ⟨u8, rfl, ho8, hb⟩
      obtain ⟨A8, c8, rfl, -, -⟩ := (RdL.of_own (f := moC) (bs := ms3) ho8).form
      have hr8 : RdM w8 (.slice A8 ms3.length c8) ms3 := ⟨RdL.of_own ho8, hp2.out⟩
      replace YI := YI.out.up yz hb
      replace yz := Nat.lt_of_lt_of_le yz hb.size
      replace HW := up_trans HW.out hb
      clear hb UN ho8 xc yc XI hr3
      go_upto_region 11 with (fail)
      obtain ⟨W9, hw⟩ : ∃ z, z = w8.alloc (.cells #[S s3, .int .i64 x3, S cl3, .slice A8 ms3.length c8, .int .i64 pa3] 27) := ⟨_, rfl⟩
      rw [← hw]
      have zI : Is W9 w8.heap.size #[S s3, .int .i64 x3, S cl3, .slice A8 ms3.length c8, .int .i64 pa3] := by rw [hw]; exact new_is w8 _ _
      have hB9 : Below w8.heap.size w8 W9 := by rw [hw]; exact up_alloc (Below.refl _ _) _
      replace YI := Lib.hid (YI.up yz hB9)
      replace yz := Nat.lt_of_lt_of_le yz hB9.size
      replace hr8 := Lib.hid (hr8.up hB9)
      replace HW := Lib.hid (up_trans HW hB9)
      have zc := zI.1
      clear hw hB9 zI
      go_wp2_with fail
      refine (RE.out _ _ hr8.out (HL.out.up HW.out)).mono ?_
      rintro e w10 ⟨u10, rfl, ho10, hb⟩
      obtain ⟨A10, c10, rfl, -, -⟩ := (RdL.of_own (f := moC) (bs := ms4) ho10).form
      replace YI := YI.out.up yz hb
      replace yz := Nat.lt_of_lt_of_le yz hb.size
      replace HW := up_trans HW.out hb
      clear hb RE ho10 zc hr8
      go_upto_region 12 with (fail)
      obtain ⟨W11, hw⟩ : ∃ z, z = w10.alloc (.cells #[S s4, .int .i64 x4, S cl4, .slice A10 ms4.length c10, .int .i64 pa4] 27) := ⟨_, rfl⟩
      rw [← hw]
      have zI : Is W11 w10.heap.size #[S s4, .int .i64 x4, S cl4, .slice A10 ms4.length c10, .int .i64 pa4] := by rw [hw]; exact new_is w10 _ _
      have hB11 : Below w10.heap.size w10 W11 := by rw [hw]; exact up_alloc (Below.refl _ _) _
      have yc := (YI.up yz hB11).1
      have zc := zI.1
      have HW11 := Lib.hid (up_trans HW hB11)
      clear hw hB11 zI YI HW
      go_wp2_with fail
      go_ret
      exact ⟨rfl, HW11.out⟩

end Go.Proofs.YtbjlkdenkmbepaaGreatDoor
