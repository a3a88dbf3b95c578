/- What is proved here: the walk of the law FnEditorOf. No condition. -/
import Derived.Test.YtbjlkdenkmbepaaGreatDoorEdSm
import Derived.Test.YtbjlkdenkmbepaaGreatDoorEdOf
import Derived.Test.YtbjlkdenkmbepaaGreatDoorDo3
import Derived.Test.YtbjlkdenkmbepaaGreatDoorAlive
namespace Go.Proofs.YtbjlkdenkmbepaaGreatDoor
open Go.RowKit
set_option linter.unusedVariables false

set_option maxRecDepth 100000 in
theorem drawEditorOf_any (v : Value) (n : Nat) (zs : List Int) (w : World) (h : Bytes w w.heap.size v n zs) :
    Calls Tryz.prog 29 #[v] w (DrawTxtPost w) := by
  go_enter Tryz.func29, Tryz.ntmps29
  go_wp2_with fail
  refine (open_any v n zs _ h).mono ?_
  rintro e w1 ⟨g, m, ys, rfl, hr, hb, hg⟩
  go_wp2_with fail
  refine (l20Text_any _ _ _ _ _ _ hr (by omega)).mono ?_
  rintro e w2 ⟨s, rfl, hs, -, hb2⟩
  have hW := Lib.hid (below_of_gb (gb_trans (gb_below (World.grownBy.refl _ _) hb) hb2) hg)
  clear hb hb2
  go_wp2_with fail
  go_ret
  exact ⟨_, rfl, hs, hW.out⟩

theorem good_first2 {s : List UInt8} (h : tv s = true) : HGood [m0] 0 s [s] :=
  ⟨h, by decide, by decide, by decide, by decide, rfl, rfl, h, fun k h0 h1 => by simp at h1; omega, rfl⟩
theorem undo_new (s : List UInt8) (w : World) (v : Value) (h : RdM w v [m0]) (ht : tv s = true) :
    Calls Tryz.prog 21 #[edAgg s 0 [] v 0, .string ⟨#[117, 110, 100, 111]⟩] w (EdDone s 0 [] [m0] 0 false w) := by
  refine implEditorDo_fail _ v [m0] 0 s 0 [] w h ⟨⟨[s], good_first2 ht⟩, inB_iff.2 ⟨by omega, by omega⟩, by decide⟩ s 0 [] [m0] 0 fun b w' hb hE => ?_
  refine (do_undo b s 0 [] [m0] 0 [s] w' hE (good_first2 ht)).mono fun e w2 hp => ?_
  obtain ⟨h1, h2, h3, h4⟩ := hp
  have hi : inB (([m0] : List Mo).getD 0 m0).par 0 ((([m0] : List Mo).length : Int) - 1) = false := by decide
  rw [hi] at h1
  exact ⟨h1, h2, fun h => by cases h⟩

theorem rdM_m0 {w : World} {base : Nat} {v : Value} (h : OwnM w base v [m0]) : RdM w v [m0] := ⟨RdL.of_own h, fun m hm => by
  obtain rfl : m = m0 := by simpa using hm
  exact ⟨by decide, by decide⟩⟩
theorem new_ok {s : List UInt8} (ht : tv s = true) : EdOk [m0] 0 s 0 [] := ⟨⟨[s], good_first2 ht⟩, inB_iff.2 ⟨by omega, by omega⟩, by decide⟩
theorem valid_new (s : List UInt8) (w : World) (v : Value) (h : RdM w v [m0]) (ht : tv s = true) :
    Calls Tryz.prog 17 #[edAgg s 0 [] v 0] w fun e w' => e = .returned (.bool true) ∧ Below w.heap.size w w' := by
  have hs := tv_len ht
  refine (implEditorValid_any v [m0] 0 s 0 [] w h (by decide) (by unfold maxLen; omega) (by decide)).mono ?_
  rintro e w' ⟨ok, rfl, hh, hb⟩
  exact ⟨by rw [hh.2 (new_ok ht)], hb⟩
theorem first_new (s : List UInt8) (w : World) (v : Value) (h : RdM w v [m0]) (ht : tv s = true) :
    Calls Tryz.prog 33 #[edAgg s 0 [] v 0] w fun e w' => e = .returned (S s) ∧ Below w.heap.size w w' := by
  have hs := tv_len ht
  refine (implEditorFirst_any v [m0] 0 s 0 [] w h (by decide) (by unfold maxLen; omega) (by decide)).mono ?_
  rintro e w' ⟨t, rfl, -, hh, hb⟩
  exact ⟨by rw [hh [s] (new_ok ht) (good_first2 ht)]; rfl, hb⟩

set_option maxRecDepth 100000 in
set_option maxHeartbeats 2000000 in
theorem editorOf_walk (v : Value) (n : Nat) (zs : List Int) (w : World) (h : Bytes w w.heap.size v n zs) :
    Calls Tryz.prog 6 #[v] w fun e w' => e = .returned (.bool true) ∧ Below w.heap.size w w' := by
  have h' := h
  obtain ⟨h1, h2, A, c, rfl, h3, h4, h5⟩ := h
  clear h5 h2 h1 h4
  by_cases hn : n ≤ 1048576
  case neg =>
    go_enter Tryz.func6, Tryz.ntmps6
    go_wp2_with fail
    go_ret
    exact ⟨rfl, Below.refl _ _⟩
  have hW := Below.refl w.heap.size w
  go_enter Tryz.func6, Tryz.ntmps6
  go_wp2_with fail
  refine (drawEditorOf_any _ n zs _ (h'.to (by (repeat (first | exact Below.refl _ _ | assumption | refine Below.drew ?_ | refine up_drewN ?_ _ | refine up_alloc ?_ _ | refine up_set ?_ _ _ (by first | exact Nat.le_refl _ | (simp; done) | (simp; omega) | omega) | refine up_trans ?_ (by assumption)))))).mono ?_
  rintro e w1 ⟨s, rfl, hs, hb⟩
  have hB : Below w.heap.size w w1 := (by (repeat (first | exact Below.refl _ _ | assumption | refine Below.drew ?_ | refine up_drewN ?_ _ | refine up_alloc ?_ _ | refine up_set ?_ _ _ (by first | exact Nat.le_refl _ | (simp; done) | (simp; omega) | omega) | refine up_trans ?_ (by assumption)))); have sw1 := hB.size; replace hW := up_trans hW hB; clear hB
  clear hb h'
  have hsl : s.length ≤ maxLen := by unfold maxLen; omega
  have I := Lib.hid (fun w => implEditorOf_any s w hsl)
  have Q := Lib.hid (fun w => specEditorOf_any s w hsl)
  have T := Lib.hid (fun w => specTextValid_any s w hsl)
  unfold ToEPost at I Q
  rcases ht : tv s with _ | _
  · rw [show eoT s = [] by unfold eoT; rw [ht]; rfl, show eoM s = [] by unfold eoM; rw [ht]; rfl] at I Q
    rw [ht] at T
    have SM := Lib.hid (fun u v w hu hv => sameEditor_same u v [] 0 [] 0 [] w hu hv)
    unfold edAgg at I Q SM
    clear ht
    go_wp2_with fail
    refine (I.out _).mono ?_
    rintro e w2 ⟨u, rfl, ho, hb⟩
    have hB : Below w1.heap.size w1 w2 := (by (repeat (first | exact Below.refl _ _ | assumption | refine Below.drew ?_ | refine up_drewN ?_ _ | refine up_alloc ?_ _ | refine up_set ?_ _ _ (by first | exact Nat.le_refl _ | (simp; done) | (simp; omega) | omega) | refine up_trans ?_ (by assumption)))); have sw2 := hB.size; replace hW := up_trans hW hB; clear hB
    have RU := Lib.hid (show RdM w2 u [] from ⟨RdL.of_own (f := moC) (bs := []) ho, fun m hm => by cases hm⟩)
    obtain ⟨UA, UC, rfl, -, -⟩ := (RdL.of_own (f := moC) (bs := []) ho).form
    clear hb ho
    go_upto_region 5 with (fail)
    obtain ⟨W3, hw⟩ : ∃ z, z = w2.alloc (.cells #[S [], .int .i64 0, S [], .slice UA 0 UC, .int .i64 0] 27) := ⟨_, rfl⟩
    have xI : Is W3 w2.heap.size #[S [], .int .i64 0, S [], .slice UA 0 UC, .int .i64 0] := by rw [hw]; exact new_is w2 _ _
    have hB3 : Below w2.heap.size w2 W3 := by rw [hw]; exact up_alloc (Below.refl _ _) _
    have xz : w2.heap.size < W3.heap.size := by rw [hw]; simp
    have xc := xI.1
    have RU3 := Lib.hid (RU.out.up hB3)
    replace hW := up_trans hW hB3
    simp only [List.length_nil] at RU3 ⊢
    rw [show w2.alloc (.cells #[.string ⟨#[]⟩, .int .i64 0, .string ⟨#[]⟩, .slice UA 0 UC, .int .i64 0] 27) = W3 from hw.symm]
    clear hw RU xI hB3
    go_region_with (first
      | (go_at_call 31; refine (Q.out _).mono ?_; rintro e w4 ⟨u4, rfl, ho4, hb4⟩; obtain ⟨A2, c2, rfl, -, -⟩ := (RdL.of_own (f := moC) (bs := []) ho4).form; go_must (have HO4 := Lib.hid ho4; have HB4 := Lib.hid (show Below W3.heap.size W3 w4 from ⟨hb4.os, hb4.tape, hb4.output, hb4.size, hb4.block⟩); replace xc := up_c HB4.out xz xc; replace xz := Nat.lt_of_lt_of_le xz hb4.size; clear ho4 hb4))
      | (go_at_call 15; refine (SM.out (.slice UA 0 UC) (.slice A2 0 c2) w4 (RU3.out.up HB4.out) ⟨RdL.of_own (f := moC) (bs := []) HO4.out, fun m hm => by cases hm⟩).mono ?_; rintro e w5 ⟨rfl, hb5⟩; go_must (have HB5 := Lib.hid (up_trans HB4.out hb5); replace xc := up_c hb5 xz xc; replace xz := Nat.lt_of_lt_of_le xz hb5.size; clear hb5)))
    all_goals
      have hW5 := up_trans hW HB5.out
      clear HB4 HO4 HB5 Q SM I RU3 hW
      go_wp2_with fail
      refine (T.out _).mono ?_
      rintro e w6 ⟨rfl, rfl⟩
      go_wp2_with fail
      refine (alive_any _).mono ?_
      rintro e w7 ⟨rfl, rfl⟩
      go_wp2_with fail
      go_ret
      exact ⟨rfl, hW5⟩
  · rw [show eoT s = s by unfold eoT; rw [ht]; rfl, show eoM s = [m0] by unfold eoM; rw [ht]; rfl] at I Q
    rw [ht] at T
    have SM := Lib.hid (fun u v w hu hv => sameEditor_same u v [m0] 0 s 0 [] w hu hv)
    have EO := Lib.hid (show EdOk [m0] 0 s 0 [] from ⟨⟨[s], good_first2 ht⟩, inB_iff.2 ⟨by omega, by omega⟩, by decide⟩)
    have U := Lib.hid (fun v w h => undo_new s w v h ht)
    have V := Lib.hid (fun v w h => valid_new s w v h ht)
    have F := Lib.hid (fun v w h => first_new s w v h ht)
    unfold EdDone at U
    unfold edAgg at I Q SM U V F
    clear ht
    go_wp2_with fail
    refine (I.out _).mono ?_
    rintro e w2 ⟨u, rfl, ho, hb⟩
    have hB : Below w1.heap.size w1 w2 := (by (repeat (first | exact Below.refl _ _ | assumption | refine Below.drew ?_ | refine up_drewN ?_ _ | refine up_alloc ?_ _ | refine up_set ?_ _ _ (by first | exact Nat.le_refl _ | (simp; done) | (simp; omega) | omega) | refine up_trans ?_ (by assumption)))); have sw2 := hB.size; replace hW := up_trans hW hB; clear hB
    have RU := Lib.hid (show RdM w2 u [m0] from rdM_m0 ho)
    obtain ⟨UA, UC, rfl, -, -⟩ := (RdL.of_own (f := moC) (bs := [m0]) ho).form
    clear hb ho
    go_upto_region 5 with (fail)
    obtain ⟨W3, hw⟩ : ∃ z, z = w2.alloc (.cells #[S s, .int .i64 0, S [], .slice UA 1 UC, .int .i64 0] 27) := ⟨_, rfl⟩
    have xI : Is W3 w2.heap.size #[S s, .int .i64 0, S [], .slice UA 1 UC, .int .i64 0] := by rw [hw]; exact new_is w2 _ _
    have hB3 : Below w2.heap.size w2 W3 := by rw [hw]; exact up_alloc (Below.refl _ _) _
    have xz : w2.heap.size < W3.heap.size := by rw [hw]; simp
    have xc := xI.1
    have RU3 := Lib.hid (RU.out.up hB3)
    replace hW := up_trans hW hB3
    simp only [List.length_cons, List.length_nil, Nat.zero_add] at RU3 ⊢
    rw [show w2.alloc (.cells #[.string ⟨s.toArray⟩, .int .i64 0, .string ⟨#[]⟩, .slice UA 1 UC, .int .i64 0] 27) = W3 from hw.symm]
    clear hw RU xI hB3
    go_region_with (first
      | (go_at_call 31; refine (Q.out _).mono ?_; rintro e w4 ⟨u4, rfl, ho4, hb4⟩; obtain ⟨A2, c2, rfl, -, -⟩ := (RdL.of_own (f := moC) (bs := [m0]) ho4).form; go_must (have HO4 := Lib.hid ho4; have HB4 := Lib.hid (show Below W3.heap.size W3 w4 from ⟨hb4.os, hb4.tape, hb4.output, hb4.size, hb4.block⟩); replace xc := up_c HB4.out xz xc; replace xz := Nat.lt_of_lt_of_le xz hb4.size; clear ho4 hb4))
      | (go_at_call 15; refine (SM.out (.slice UA 1 UC) (.slice A2 1 c2) w4 (RU3.out.up HB4.out) (rdM_m0 HO4.out)).mono ?_; rintro e w5 ⟨rfl, hb5⟩; go_must (have HB5 := Lib.hid (up_trans HB4.out hb5); replace xc := up_c hb5 xz xc; replace xz := Nat.lt_of_lt_of_le xz hb5.size; clear hb5)))
    all_goals
      have hW5 := up_trans hW HB5.out
      have xz5 := xz
      have RU5 := Lib.hid (RU3.out.up HB5.out)
      clear HB4 HO4 HB5 Q SM I RU3 hW
      go_wp2_with fail
      refine (T.out _).mono ?_
      rintro e w6 ⟨rfl, rfl⟩
      go_wp2_with fail
      refine (U.out _ _ RU5.out).mono ?_
      rintro e w7 ⟨u7, rfl, ho7, hb⟩
      obtain ⟨A7, c7, rfl, -, -⟩ := (RdL.of_own (f := moC) (bs := [m0]) ho7).form
      have RU7 := Lib.hid (RU5.out.up hb)
      replace xc := up_c hb xz5 xc
      have xz7 := Nat.lt_of_lt_of_le xz5 hb.size
      have hW7 := up_trans hW5 hb
      clear hb ho7 hW5 RU5
      simp only [List.length_cons, List.length_nil, Nat.zero_add]
      go_wp2_with fail
      refine (V.out _ _ (RU7.out.up (by (repeat (first | exact Below.refl _ _ | assumption | refine Below.drew ?_ | refine up_drewN ?_ _ | refine up_alloc ?_ _ | refine up_set ?_ _ _ (by first | exact Nat.le_refl _ | (simp; done) | (simp; omega) | omega) | refine up_trans ?_ (by assumption)))))).mono ?_
      rintro e w8 ⟨rfl, hb⟩
      have yc : ∀ o, w8.cell? ⟨w7.heap.size, o, none⟩ = #[S s, .int .i64 0, S [], .slice A7 1 c7, .int .i64 0][o]? := (fun o => (hb.cell (p := ⟨w7.heap.size, o, none⟩) (by simp <;> omega)).trans (by simp [go_sem])); have yf : ∀ o, w8.frozen? ⟨w7.heap.size, o, none⟩ = false := (fun o => (hb.frozen (p := ⟨w7.heap.size, o, none⟩) (by simp <;> omega)).trans (by simp [go_sem])); have yz : w7.heap.size < w8.heap.size := (by have := hb.size; (try simp at this); omega); have yy := yz
      have hB8 : Below w7.heap.size w7 w8 := by (repeat (first | exact Below.refl _ _ | assumption | refine Below.drew ?_ | refine up_drewN ?_ _ | refine up_alloc ?_ _ | refine up_set ?_ _ _ (by first | exact Nat.le_refl _ | (simp; done) | (simp; omega) | omega) | refine up_trans ?_ (by assumption)))
      replace xc := up_c hB8 xz7 xc
      have RU8 := Lib.hid (RU7.out.up hB8)
      have hW8 := up_trans hW7 hB8
      clear hb hB8
      go_wp2_with fail
      refine (F.out _ _ RU8.out).mono ?_
      rintro e w9 ⟨rfl, hb⟩
      have hW9 := up_trans hW8 hb
      clear hb
      go_wp2_with fail
      go_ret
      exact ⟨rfl, hW9⟩

end Go.Proofs.YtbjlkdenkmbepaaGreatDoor
