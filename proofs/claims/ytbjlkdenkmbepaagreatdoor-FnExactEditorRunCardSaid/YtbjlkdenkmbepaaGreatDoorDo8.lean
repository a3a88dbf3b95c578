/- What is proved here: contracts of the program's action run, and of EditorDo. Condition: what the library's variables hold. -/
import Derived.Test.YtbjlkdenkmbepaaGreatDoorDo7
import Derived.Test.YtbjlkdenkmbepaaGreatDoorAc22
import Derived.Test.YtbjlkdenkmbepaaGreatDoorAc4
import Derived.Test.YtbjlkdenkmbepaaGreatDoorAc7
namespace Go.Proofs.YtbjlkdenkmbepaaGreatDoor
open Go.RowKit
set_option linter.unusedVariables false

set_option maxRecDepth 100000 in
set_option maxHeartbeats 1000000 in
theorem do_run (b : Nat) (e : Es) (o : List (List UInt8)) (a c : List UInt8) (w : World) (h : EdB w b e) (hin : EdIn e o) (ha : a = 114 :: 117 :: 110 :: 32 :: c) (hl : a.length ≤ 1048576) (hL : LW w) :
    Calls Tryz.prog 65 #[.pointer (some ⟨b, 0, none⟩), S a] w (DoP b (edDo e o (.run c)) w) := by
  have C := Lib.hid (strCut_yes a [114, 117, 110] c w ha (by decide) hl hL.mx)
  have hcl : c.length ≤ 1048576 := by have := congrArg List.length ha; simp at this; omega
  have T := hin.g.t
  have RL := Lib.hid (fun w' (hL' : LW w') => implRunLine_any e.s c w' T hcl hL')
  unfold RlPost at RL
  have HL := Lib.hid hL
  cases hrn : rnL e.s c with
  | none =>
    rw [show edDo e o (.run c) = none by show (match rnL e.s c with | none => none | some y => edCh e (dfC e.s y) e.cl) = none; rw [hrn]]
    rw [hrn] at RL
    simp only [Option.getD_none, Option.isSome_none] at RL
    have DC := Lib.hid (fun w => implDiffChange_any e.s e.s w T T)
    generalize dfC e.s e.s = z at *
    obtain ⟨fa, fc, fp⟩ := z
    unfold chAgg at DC
    simp only at DC
    have hsl := tv_len T
    have HE := Lib.hid h
    obtain ⟨s, x, cl, ms, pa⟩ := e
    simp only at *
    subst ha
    clear h hin hl hL T hrn
    unfold DoP
    go_enter Tryz.func65, Tryz.ntmps65
    go_wp2_with fail
    refine C.out.mono ?_
    rintro en w1 ⟨rfl, hb⟩
    have HB := Lib.hid hb
    have HL1 := Lib.hid (HL.out.up hb)
    have hE1 := EdBox.up HE.out hb
    obtain ⟨B, d, hI, hz⟩ := hE1.rd
    have HE1 := Lib.hid hE1
    have xc := hI.1
    clear C hb HE hE1 hI HL
    go_wp2_with fail
    refine (RL.out _ HL1.out).mono ?_
    rintro en w2 ⟨rfl, hb⟩
    have HB2 := Lib.hid (up_trans HB.out hb)
    have hE2 := EdBox.up HE1.out hb
    obtain ⟨B2, d2, hI2, hz2⟩ := hE2.rd
    have HE2 := Lib.hid hE2
    replace xc := hI2.1
    clear RL hb HE1 hE2 hI2 HB HL1
    go_wp2_with fail
    refine (DC.out _).mono ?_
    rintro en w3 ⟨rfl, hb⟩
    have HB3 := Lib.hid (up_trans HB2.out hb)
    have hE3 := EdBox.up HE2.out hb
    have HE3 := Lib.hid hE3
    clear DC hb HE2 HB2 xc
    go_wp2_with fail
    go_quiet (fail)
    go_wp2_with fail
    go_ret
    exact ⟨rfl, gb_of_up (up_drewN (up_alloc HB3.out _) _) _, fun e2 he => by cases he⟩
  | some y0 =>
    have ht2 := rnL_tv T hrn
    obtain ⟨r, hr⟩ : ∃ r, r = edDo e o (.run c) := ⟨_, rfl⟩
    rw [← hr]
    have hr2 : edCy e (dfC e.s y0) (mvP (dfC e.s y0) e.x) = r := by
      rw [hr, edCy_mv rfl]
      show _ = (match rnL e.s c with | none => none | some y => edCh e (dfC e.s y) e.cl)
      rw [hrn]
    rw [hrn] at RL
    simp only [Option.getD_some, Option.isSome_some] at RL
    have DC := Lib.hid (fun w => implDiffChange_any e.s y0 w T ht2)
    have hdi := dfC_in e.s y0 (tv_len T) (tv_len ht2)
    have x0 := hin.x0
    have x1 := hin.x1
    have hs0 := tv_len T
    have MP := Lib.hid (fun w => implMovePlace_any (dfC e.s y0).a (dfC e.s y0).c e.x (dfC e.s y0).p w (inB_iff.2 ⟨hdi.1, hdi.2.1⟩) (inB_iff.2 ⟨hdi.2.2.1, hdi.2.2.2.1⟩) (inB_iff.2 ⟨x0, by omega⟩) hdi.2.2.2.2)
    have CH := Lib.hid (fun (w' : World) (h' : EdB w' b e) => change_any b e o (dfC e.s y0) (mvP (dfC e.s y0) e.x) w' h' hin (by omega))
    rw [hr2] at CH
    generalize hz : dfC e.s y0 = z at *
    obtain ⟨y, hy⟩ : ∃ y, y = mvP z e.x := ⟨_, rfl⟩
    rw [← hy] at CH
    obtain ⟨fa, fc, fp⟩ := z
    simp only at MP
    rw [← hy] at MP
    unfold chV at MP
    unfold DoP at CH ⊢
    unfold chAgg at DC CH
    simp only at DC CH
    clear hr hr2 hz hy hdi
    have hsl := tv_len T
    have HE := Lib.hid h
    obtain ⟨s, x, cl, ms, pa⟩ := e
    simp only at *
    subst ha
    clear h hin hl hL T hrn
    go_enter Tryz.func65, Tryz.ntmps65
    go_wp2_with fail
    refine C.out.mono ?_
    rintro en w1 ⟨rfl, hb⟩
    have HB := Lib.hid hb
    have HL1 := Lib.hid (HL.out.up hb)
    have hE1 := EdBox.up HE.out hb
    obtain ⟨B, d, hI, hz⟩ := hE1.rd
    have HE1 := Lib.hid hE1
    have xc := hI.1
    clear C hb HE hE1 hI HL
    go_wp2_with fail
    refine (RL.out _ HL1.out).mono ?_
    rintro en w2 ⟨rfl, hb⟩
    have HB2 := Lib.hid (up_trans HB.out hb)
    have hE2 := EdBox.up HE1.out hb
    obtain ⟨B2, d2, hI2, hz2⟩ := hE2.rd
    have HE2 := Lib.hid hE2
    replace xc := hI2.1
    clear RL hb HE1 hE2 hI2 HB HL1
    go_wp2_with fail
    refine (DC.out _).mono ?_
    rintro en w3 ⟨rfl, hb⟩
    have HB3 := Lib.hid (up_trans HB2.out hb)
    have hE3 := EdBox.up HE2.out hb
    have HE3 := Lib.hid hE3
    clear DC hb HE2 HB2 xc
    go_upto_region 37 with (fail)
    obtain ⟨W4, hw⟩ : ∃ z, z = w3.alloc (.cells #[.int .i64 fa, .int .i64 fc, S fp] 78) := ⟨_, rfl⟩
    rw [← hw]
    have hB4 : Below w3.heap.size w3 W4 := by rw [hw]; exact up_alloc (Below.refl _ _) _
    have qI : Is W4 w3.heap.size #[.int .i64 fa, .int .i64 fc, S fp] := by rw [hw]; exact new_is w3 _ _
    have qz : w3.heap.size < W4.heap.size := by rw [hw]; simp
    have HG4 := Lib.hid (gb_of_up (up_trans HB3.out hB4) (some b))
    obtain ⟨q, hq⟩ : ∃ q, q = w3.heap.size := ⟨_, rfl⟩
    rw [← hq] at qI qz ⊢
    have HD0 : EdB W4.drew b ⟨s, x, cl, ms, pa⟩ ∧ Is W4.drew q #[.int .i64 fa, .int .i64 fc, S fp] ∧ q < W4.drew.heap.size := ⟨edBox_drew (EdBox.up HE3.out hB4), qI.drew, qz⟩
    clear hw hB4 qI qz hq HE3 HB3
    --EVER{(*impl.Editor).do;37;run37}
    refine wp_region_everL (R := RP b (EdS b r)) (M := fun _ _ => True) 10 (fun w => EdB w b ⟨s, x, cl, ms, pa⟩ ∧ Is w q #[.int .i64 fa, .int .i64 fc, S fp] ∧ q < w.heap.size) [(pEq _ _ (.bool true)).l, (pEq _ _ (.bool true)).l, (pEq _ _ (.pointer (some ⟨b, 0, none⟩))).l, (pEq _ _ (.agg #[.int .i64 fa, .int .i64 fc, S fp])).l, (pEq _ _ (.agg #[.int .i64 fa, .int .i64 fc, S fp])).l, (pEq _ _ (.pointer (some ⟨b, 0, none⟩))).l, (pEq _ _ (.pointer (some ⟨b, 0, none⟩))).l, (pEq _ _ (.pointer (some ⟨b, 1, none⟩))).l, (pEq _ _ (.int .i64 x)).l, (pEq _ _ (.int .i64 y)).l, (pDo b r).l, (pDo b r).l, (pDo b r).l] (by kernel_rfl) (RP.refl _ _) (fun _ _ _ => RP.trans) (by kernel_rfl) (by kernel_rfl) (trivial) (HD0) ?_ ?_
    · refine ⟨?_, ?_, ?_, ?_, ?_, ?_, ?_, ?_, ?_, ?_, ?_, ?_, ?_, trivial⟩
      · intro k' w' ρ hk' hR hM hD hF
        replace hk' : k' < 13 := hk'
        obtain ⟨f0, -⟩ := hF
        replace f0 : ρ (.tmp 13) = .bool true := f0
        exact ⟨RP.refl _ _ _, ⟨trivial, fun _ h => h⟩, f0, trivial⟩
      · intro k' w' ρ hk' hR hM hD hF
        replace hk' : k' < 13 := hk'
        obtain ⟨f0, -⟩ := hF
        replace f0 : ρ (.tmp 178) = .bool true := f0
        exact ⟨RP.refl _ _ _, ⟨trivial, fun _ h => h⟩, f0, trivial⟩
      · intro k' w' ρ hk' hR hM hD hF
        replace hk' : k' < 13 := hk'
        obtain ⟨f0, -⟩ := hF
        replace f0 : ρ (.tmp 0) = .pointer (some ⟨b, 0, none⟩) := f0
        refine fun u hu => ⟨fun _ => ?_, fun hn => absurd hu hn⟩
        exact ⟨RP.refl _ _ _, ⟨trivial, fun _ h => h⟩, f0, trivial⟩
      · intro k' w' ρ hk' hR hM hD hF
        replace hk' : k' < 13 := hk'
        obtain ⟨f0, -⟩ := hF
        replace f0 : ρ (.tmp 14) = .pointer (some ⟨q, 0, none⟩) := f0
        refine fun u hu => ⟨fun _ => ?_, fun hn => absurd hu hn⟩
        refine goodL_of (fun _ => trivial) fun K hK => ?_
        have hI := (hD (by kernel_rfl)).2.1; have z0 := hI.1 0; have z1 := hI.1 1; have z2 := hI.1 2; simp only [List.getElem?_toArray, List.getElem?_cons_zero, List.getElem?_cons_succ] at z0 z1 z2; go_simp; exact hK _ _ (RP.refl _ _ _) (⟨trivial, fun _ h => h⟩) rfl
      · intro k' w' ρ hk' hR hM hD hF
        replace hk' : k' < 13 := hk'
        obtain ⟨f0, -⟩ := hF
        replace f0 : ρ (.tmp 14) = .pointer (some ⟨q, 0, none⟩) := f0
        refine fun u hu => ⟨fun _ => ?_, fun hn => absurd hu hn⟩
        refine goodL_of (fun _ => trivial) fun K hK => ?_
        have hI := (hD (by kernel_rfl)).2.1; have z0 := hI.1 0; have z1 := hI.1 1; have z2 := hI.1 2; simp only [List.getElem?_toArray, List.getElem?_cons_zero, List.getElem?_cons_succ] at z0 z1 z2; go_simp; exact hK _ _ (RP.refl _ _ _) (⟨trivial, fun _ h => h⟩) rfl
      · intro k' w' ρ hk' hR hM hD hF
        replace hk' : k' < 13 := hk'
        obtain ⟨f0, -⟩ := hF
        replace f0 : ρ (.tmp 0) = .pointer (some ⟨b, 0, none⟩) := f0
        refine fun u hu => ⟨fun _ => ?_, fun hn => absurd hu hn⟩
        exact ⟨RP.refl _ _ _, ⟨trivial, fun _ h => h⟩, f0, trivial⟩
      · intro k' w' ρ hk' hR hM hD hF
        replace hk' : k' < 13 := hk'
        obtain ⟨f0, -⟩ := hF
        replace f0 : ρ (.tmp 183) = .pointer (some ⟨b, 0, none⟩) := f0
        refine fun u hu => ⟨fun _ => ?_, fun hn => absurd hu hn⟩
        refine goodL_of (fun _ => trivial) fun K hK => ?_
        go_simp
        exact hK _ _ (RP.refl _ _ _) (⟨trivial, fun _ h => h⟩) (rfl)
      · intro k' w' ρ hk' hR hM hD hF
        replace hk' : k' < 13 := hk'
        obtain ⟨f0, -⟩ := hF
        replace f0 : ρ (.tmp 184) = .pointer (some ⟨b, 0, none⟩) := f0
        refine fun u hu => ⟨fun _ => ?_, fun hn => absurd hu hn⟩
        refine goodL_of (fun _ => trivial) fun K hK => ?_
        go_simp
        exact hK _ _ (RP.refl _ _ _) (⟨trivial, fun _ h => h⟩) (rfl)
      · intro k' w' ρ hk' hR hM hD hF
        replace hk' : k' < 13 := hk'
        obtain ⟨f0, -⟩ := hF
        replace f0 : ρ (.tmp 185) = .pointer (some ⟨b, 1, none⟩) := f0
        refine fun u hu => ⟨fun _ => ?_, fun hn => absurd hu hn⟩
        refine goodL_of (fun _ => trivial) fun K hK => ?_
        obtain ⟨B, d, hI, hz⟩ := (hD (by kernel_rfl)).1.rd; have z1 := hI.1 1; simp only [List.getElem?_toArray, List.getElem?_cons_zero, List.getElem?_cons_succ] at z1; go_simp; exact hK _ _ (RP.refl _ _ _) (⟨trivial, fun _ h => h⟩) rfl
      · intro k' w' ρ hk' hR hM hD hF
        replace hk' : k' < 13 := hk'
        obtain ⟨f0, f1, f2, f3, -⟩ := hF
        replace f0 : ρ (.func _) = .func (.func _) #[] #[] := f0
        replace f1 : ρ (.tmp 182) = .agg #[.int .i64 fa, .int .i64 fc, S fp] := f1
        replace f2 : ρ (.tmp 186) = .int .i64 x := f2
        replace f3 : ρ (.const (.bool true)) = .bool true := f3
        refine fun u hu => ⟨fun _ => ?_, fun hn => absurd hu hn⟩
        refine goodL_of (fun _ => trivial) fun K hK => ?_
        go_simp; refine (MP.out _).mono ?_; rintro en wc ⟨rfl, hb⟩; exact ⟨_, rfl, hK _ _ (RP.of_below hb) ⟨trivial, fun _ hd => ⟨EdBox.up hd.1 hb, hd.2.1.up hd.2.2 hb, Nat.lt_of_lt_of_le hd.2.2 hb.size⟩⟩ rfl⟩
      · intro k' w' ρ hk' hR hM hD hF
        replace hk' : k' < 13 := hk'
        obtain ⟨f0, f1, f2, f3, -⟩ := hF
        replace f0 : ρ (.func _) = .func (.func _) #[] #[] := f0
        replace f1 : ρ (.tmp 180) = .pointer (some ⟨b, 0, none⟩) := f1
        replace f2 : ρ (.tmp 181) = .agg #[.int .i64 fa, .int .i64 fc, S fp] := f2
        replace f3 : ρ (.tmp 187) = .int .i64 y := f3
        refine fun u hu => ⟨fun _ => ?_, fun hn => absurd hu hn⟩
        refine goodL_of (fun _ => trivial) fun K hK => ?_
        have hE := Lib.hid (hD (by kernel_rfl)); go_simp; refine (CH.out _ hE.out.1).mono ?_; rintro en wc ⟨rfl, hg2, h2⟩; exact ⟨_, rfl, hK _ _ (RP.of_do hg2 h2) ⟨trivial, fun h => absurd rfl h⟩ ⟨rfl, h2⟩⟩
      · intro k' w' ρ hk' hR hM hD hF
        replace hk' : k' < 13 := hk'
        obtain ⟨f0, f1, f2, -⟩ := hF
        replace f0 : ρ (.tmp 179) = .bool true := f0
        replace f2 : ρ (.const (.bool false)) = .bool false := f2
        refine goodL_of (fun _ => trivial) fun K hK => ?_
        obtain ⟨f1, q1⟩ := f1; replace f1 : ρ (.tmp 188) = .bool r.isSome := f1; have Q1 := Lib.hid q1; clear q1; go_simp; exact hK _ _ (RP.refl _ _ _) ⟨trivial, fun _ h => h⟩ ⟨rfl, Q1.out⟩
      · intro k' w' ρ hk' hR hM hD hF
        replace hk' : k' < 13 := hk'
        obtain ⟨f0, -⟩ := hF
        refine goodL_of (fun _ => trivial) fun K hK => ?_
        obtain ⟨f0, q0⟩ := f0; replace f0 : ρ (.tmp 189) = .bool r.isSome := f0; have Q0 := Lib.hid q0; clear q0; go_simp; exact hK _ _ (RP.refl _ _ _) ⟨trivial, fun _ h => h⟩ ⟨rfl, Q0.out⟩
    · intro w' hR hM
      rintro _ rfl -
      rintro _ rfl -
      rintro _ rfl -
      rintro _ rfl -
      rintro _ rfl -
      rintro _ rfl -
      rintro _ rfl -
      rintro _ rfl -
      rintro _ rfl -
      rintro _ rfl -
      rintro _ ⟨rfl, hF17⟩ -
      rintro _ ⟨rfl, -⟩ -
      rintro _ ⟨rfl, -⟩ -
    --END
    --END
      dsimp only [EndAllL, Act.put]
      simp only [List.setIfInBounds_toArray, List.set_cons_zero, List.set_cons_succ]
      have HQ := Lib.hid (And.intro (gb_trans HG4.out hR.grown) hF17)
      obtain ⟨w5, rfl⟩ : ∃ z, z = w' := ⟨_, rfl⟩
      clear hR hM CH HD0 HG4
      go_wp2_with fail
      go_ret
      exact ⟨rfl, HQ.out⟩
theorem do_any (b : Nat) (e : Es) (o : List (List UInt8)) (a : List UInt8) (w : World) (h : EdB w b e) (hin : EdIn e o) (hl : a.length ≤ 1048576) (hL : LW w) :
    Calls Tryz.prog 65 #[.pointer (some ⟨b, 0, none⟩), S a] w (DoP b (edDo e o (akOf a)) w) := by
  obtain ⟨k, hk⟩ : ∃ k : Nat, e.pa = k := ⟨e.pa.toNat, by have := hin.g.a0; omega⟩
  have tr : ∀ (p : Int) (en : Ending) (w' : World), TrPost b e.s e.x e.cl e.ms k (toText e.ms.length o e.s p) e.ms (toAt e.ms.length k p) (inB p 0 ((e.ms.length : Int) - 1)) w en w' → DoP b (edTo e o p) w en w' := by
    intro p en w' ⟨h1, h2, h3, h4⟩
    unfold edTo
    unfold toText toAt at h3
    rcases hi : inB p 0 ((e.ms.length : Int) - 1) with _ | _
    · rw [hi] at h1
      exact ⟨h1, h2, fun e2 he => by simp at he⟩
    · rw [hi] at h1 h3
      exact ⟨h1, h2, fun e2 he => by
        simp only [if_true, Option.some.injEq] at he
        subst he
        exact h3 rfl⟩
  rcases akOf_cases a with ⟨rfl, e1⟩ | ⟨rfl, e1⟩ | ⟨rfl, e1⟩ | ⟨rfl, e1⟩ | ⟨rfl, e1⟩ | ⟨rfl, e1⟩ | ⟨rfl, e1⟩ | ⟨r, h1, e1⟩ | ⟨r, h1, e1⟩ | ⟨r, h1, e1⟩ | ⟨e1, h1, h2, h3, h4, h5, h6, h7, n1, n2, n3⟩
  · rw [e1]; exact do_line b e o w h hin
  · rw [e1]; exact do_cut b e o w h hin
  · rw [e1]; exact do_paste b e o w h hin
  · rw [e1]; exact do_right b e o w h hin
  · rw [e1]; exact do_left b e o w h hin
  · rw [e1]
    unfold EdB at h
    have hg := hin.g
    rw [hk] at h hg
    refine (do_undo b e.s e.x e.cl e.ms k o w h hg).mono fun en w' hp => ?_
    have := tr _ en w' hp
    rw [show edDo e o .undo = edTo e o (e.ms.getD k m0).par by show edTo e o (e.ms.getD e.pa.toNat m0).par = _; rw [hk, Int.toNat_natCast]]
    exact this
  · rw [e1]
    unfold EdB at h
    have hg := hin.g
    rw [hk] at h hg
    refine (do_redo b e.s e.x e.cl e.ms k o w h hg).mono fun en w' hp => ?_
    have := tr _ en w' hp
    rw [show edDo e o .redo = edTo e o (foTo e.ms k e.ms.length) by show edTo e o (foTo e.ms e.pa e.ms.length) = _; rw [hk]]
    exact this
  · rw [e1]; exact do_put b e o a r w h hin h1 hl hL.mx
  · rw [e1]; exact do_find b e o a r w h hin h1 hl hL.mx
  · rw [e1]; exact do_run b e o a r w h hin h1 hl hL
  · rw [e1]; exact do_no b e o a w hl hL.mx h1 h2 h3 h4 h5 h6 h7 n1 n2 n3
/-- EditorDo at a valid editor. -/
theorem implEditorDo_any (v : Value) (e : Es) (o : List (List UInt8)) (a : List UInt8) (w : World) (h : RdM w v e.ms) (hin : EdIn e o) (hl : a.length ≤ 1048576) (hL : LW w) :
    Calls Tryz.prog 21 #[edV e v, S a] w (EdGot ((edDo e o (akOf a)).getD e) (edDo e o (akOf a)).isSome w) :=
  implEditorDo_lift (S a) v e (edDo e o (akOf a)) w h hin.ok (fun e2 he => by
    obtain ⟨o2, h2, _⟩ := edDo_next hin he
    have := h2.g.n30
    omega) (fun b w' hb hE => do_any b e o a w' hE hin hl (hL.up hb))

end Go.Proofs.YtbjlkdenkmbepaaGreatDoor
