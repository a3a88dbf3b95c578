/- What is proved here: the walk of the law FnHistoryOf. No condition. -/
import Derived.Test.YtjcdklkdpcncgaaHistO
import Derived.Deep.Cut
namespace Go.Proofs.Ytjcdklkdpcncgaa
open Go.RowKit
set_option linter.unusedVariables false

theorem rdM_own1 {w : World} {base : Nat} {v : Value} (h : OwnM w base v [m0]) : RdM w v [m0] := ⟨RdL.of_own h, fun m hm => by
  obtain rfl : m = m0 := by simpa using hm
  exact ⟨by decide, by decide⟩⟩
theorem good_first {s : List UInt8} (h : tv s = true) : HGood [m0] 0 s [s] :=
  ⟨h, by decide, by decide, by decide, by decide, rfl, rfl, h, fun k h0 h1 => by simp at h1; omega, rfl⟩
theorem first_tv {s : List UInt8} (h : tv s = false) : ¬ ∃ o, HGood [m0] 0 s o := fun ⟨o, ho⟩ => by have := ho.t; rw [h] at this; cases this
def tHist : Ty (RS []) := ⟨fun v w => ∃ u, v = .agg #[u, .int .i64 0] ∧ RdM w u [m0], fun _ _ _ hR ⟨u, hv, h⟩ => ⟨u, hv, h.up hR.to_below⟩⟩
def NoPost (w : World) (e : Ending) (w' : World) : Prop := ∃ A n c a t, e = .returned (.tuple #[.agg #[.slice A n c, .int .i64 a], S t, .bool false]) ∧ Below w.heap.size w w'
theorem no_of {w : World} {ms : List Mo} {a : Int} {t : List UInt8} {e : Ending} {w' : World} (h : HRes ms a t false w e w') : NoPost w e w' := by
  obtain ⟨v, rfl, ho, hb⟩ := h
  obtain ⟨A, c, rfl, _, _⟩ := (RdL.of_own (f := moC) (bs := ms) ho).form
  exact ⟨A, _, c, _, _, rfl, hb⟩
theorem back_first (v : Value) (s : List UInt8) (w : World) (h : RdM w v [m0]) (hs : s.length ≤ 130) :
    Calls Try.prog 27 #[.agg #[v, .int .i64 0], S s] w (NoPost w) := by
  rcases ht : tv s with _ | _
  · exact (implHistoryBack_no v [m0] 0 s w h (by decide) (by unfold maxLen; omega) (first_tv ht)).mono fun _ _ h => no_of h
  · exact (implHistoryBack_yes v [m0] 0 s w [s] h (good_first ht)).mono fun _ _ h => no_of h
theorem forth_first (v : Value) (s : List UInt8) (w : World) (h : RdM w v [m0]) (hs : s.length ≤ 130) :
    Calls Try.prog 29 #[.agg #[v, .int .i64 0], S s] w (NoPost w) := by
  rcases ht : tv s with _ | _
  · exact (implHistoryForth_no v [m0] 0 s w h (by decide) (by unfold maxLen; omega) (first_tv ht)).mono fun _ _ h => no_of h
  · exact (implHistoryForth_yes v [m0] 0 s w [s] h (good_first ht)).mono fun _ _ h => no_of h
theorem valid_first (v : Value) (s : List UInt8) (w : World) (h : RdM w v [m0]) (hs : s.length ≤ 130) :
    Calls Try.prog 34 #[.agg #[v, .int .i64 0], S s] w fun e w' => e = .returned (.bool (tv s)) ∧ Below w.heap.size w w' :=
  (implHistoryValid_any v [m0] 0 s w h (by decide) (by unfold maxLen; omega)).mono fun e w' ⟨ok, he, hh, hb⟩ => by
    refine ⟨?_, hb⟩
    rw [he]
    rcases ht : tv s with _ | _
    · rcases ok with _ | _
      · rfl
      · exact absurd (hh.1 rfl) (first_tv ht)
    · rw [hh.2 ⟨[s], good_first ht⟩]

set_option maxRecDepth 100000 in
set_option maxHeartbeats 2000000 in
theorem historyOf_walk (v : Value) (n : Nat) (zs : List Int) (w : World) (h : Bytes w w.heap.size v n zs) :
    Calls Try.prog 7 #[v] w fun e w' => e = .returned (.bool true) ∧ Below w.heap.size w w' := by
  have h' := h
  obtain ⟨h1, h2, A, c, rfl, h3, h4, h5⟩ := h
  clear h5 h2 h1 h4
  by_cases hn : n ≤ 1048576
  · have hW := Below.refl w.heap.size w
    go_enter Try.func7, Try.ntmps7
    go_wp2_with fail
    refine (implHistoryOf_any _).mono ?_
    rintro e w1 ⟨hv, rfl, ho, hb⟩
    have hB : Below w.heap.size w w1 := (by (repeat (first | exact Below.refl _ _ | assumption | refine Below.drew ?_ | refine up_drewN ?_ _ | refine up_alloc ?_ _ | refine up_set ?_ _ _ (by first | exact Nat.le_refl _ | (simp; done) | (simp; omega) | omega) | refine up_trans ?_ (by assumption)))); have sw1 := hB.size; replace hW := up_trans hW hB; clear hB
    have H := Lib.hid (rdM_own1 ho)
    obtain ⟨HA, hc, rfl, -, -⟩ := (RdL.of_own (f := moC) (bs := [m0]) ho).form
    clear hb ho
    simp only [List.length_cons, List.length_nil, Nat.zero_add] at H ⊢
    go_wp2_with fail
    refine (drawTextValid_any _ n zs _ (h'.to (by (repeat (first | exact Below.refl _ _ | assumption | refine Below.drew ?_ | refine up_drewN ?_ _ | refine up_alloc ?_ _ | refine up_set ?_ _ _ (by first | exact Nat.le_refl _ | (simp; done) | (simp; omega) | omega) | refine up_trans ?_ (by assumption)))))).mono ?_
    rintro e w2 ⟨s, rfl, hs, hb⟩
    replace H := RdM.hup H (show Below w1.heap.size w1 w2 by (repeat (first | exact Below.refl _ _ | assumption | refine Below.drew ?_ | refine up_drewN ?_ _ | refine up_alloc ?_ _ | refine up_set ?_ _ _ (by first | exact Nat.le_refl _ | (simp; done) | (simp; omega) | omega) | refine up_trans ?_ (by assumption))))
    have hB : Below w1.heap.size w1 w2 := (by (repeat (first | exact Below.refl _ _ | assumption | refine Below.drew ?_ | refine up_drewN ?_ _ | refine up_alloc ?_ _ | refine up_set ?_ _ _ (by first | exact Nat.le_refl _ | (simp; done) | (simp; omega) | omega) | refine up_trans ?_ (by assumption)))); have sw2 := hB.size; replace hW := up_trans hW hB; clear hB
    have tc : ∀ o, w2.cell? ⟨w1.heap.size, o, none⟩ = #[.slice HA 1 hc, .int .i64 0][o]? := (fun o => (hb.cell (p := ⟨w1.heap.size, o, none⟩) (by simp <;> omega)).trans (by simp [go_sem])); have tf : ∀ o, w2.frozen? ⟨w1.heap.size, o, none⟩ = false := (fun o => (hb.frozen (p := ⟨w1.heap.size, o, none⟩) (by simp <;> omega)).trans (by simp [go_sem])); have tz : w1.heap.size < w2.heap.size := (by have := hb.size; (try simp at this); omega); have ty := tz
    clear hb h' ty
    go_wp2_with fail
    refine (back_first _ s _ H.out hs).mono ?_
    rintro e w3 ⟨B1, n1, d1, a1, t1, rfl, hb⟩
    replace H := RdM.hup H hb
    have hB : Below w2.heap.size w2 w3 := (by (repeat (first | exact Below.refl _ _ | assumption | refine Below.drew ?_ | refine up_drewN ?_ _ | refine up_alloc ?_ _ | refine up_set ?_ _ _ (by first | exact Nat.le_refl _ | (simp; done) | (simp; omega) | omega) | refine up_trans ?_ (by assumption)))); replace tc := up_c hB tz tc; replace tf := up_f hB tz tf; replace tz := Nat.lt_of_lt_of_le tz hB.size; have sw3 := hB.size; replace hW := up_trans hW hB; clear hB
    clear hb
    go_wp2_with fail
    refine (forth_first _ s _ (H.out.up (by (repeat (first | exact Below.refl _ _ | assumption | refine Below.drew ?_ | refine up_drewN ?_ _ | refine up_alloc ?_ _ | refine up_set ?_ _ _ (by first | exact Nat.le_refl _ | (simp; done) | (simp; omega) | omega) | refine up_trans ?_ (by assumption))))) hs).mono ?_
    rintro e w4 ⟨B2, n2, d2, a2, t2, rfl, hb⟩
    replace H := RdM.hup H (show Below w3.heap.size w3 w4 by (repeat (first | exact Below.refl _ _ | assumption | refine Below.drew ?_ | refine up_drewN ?_ _ | refine up_alloc ?_ _ | refine up_set ?_ _ _ (by first | exact Nat.le_refl _ | (simp; done) | (simp; omega) | omega) | refine up_trans ?_ (by assumption))))
    have hB : Below w3.heap.size w3 w4 := (by (repeat (first | exact Below.refl _ _ | assumption | refine Below.drew ?_ | refine up_drewN ?_ _ | refine up_alloc ?_ _ | refine up_set ?_ _ _ (by first | exact Nat.le_refl _ | (simp; done) | (simp; omega) | omega) | refine up_trans ?_ (by assumption)))); replace tc := up_c hB tz tc; replace tf := up_f hB tz tf; replace tz := Nat.lt_of_lt_of_le tz hB.size; have sw4 := hB.size; replace hW := up_trans hW hB; clear hB
    clear hb
    go_upto_region 7 with (fail)
    generalize hw5 : World.alloc _ _ = w5
    have hb : Below w4.heap.size w4 w5 := by rw [← hw5]; exact up_alloc (Below.refl _ _) _
    replace H := RdM.hup H hb
    have hB : Below w4.heap.size w4 w5 := (by (repeat (first | exact Below.refl _ _ | assumption | refine Below.drew ?_ | refine up_drewN ?_ _ | refine up_alloc ?_ _ | refine up_set ?_ _ _ (by first | exact Nat.le_refl _ | (simp; done) | (simp; omega) | omega) | refine up_trans ?_ (by assumption)))); replace tc := up_c hB tz tc; replace tf := up_f hB tz tf; replace tz := Nat.lt_of_lt_of_le tz hB.size; have sw5 := hB.size; replace hW := up_trans hW hB; clear hB
    clear hb hw5
    --EVER{laws.FnHistoryOf;7;lhof7}
    refine wp_region_ever (R := RS []) (M := fun _ _ => True) [tEq _ (.agg #[.slice HA 1 hc, .int .i64 0]), tHist, tEq _ (.bool true), tEq _ (.bool true), tEq _ (.agg #[.slice HA 1 hc, .int .i64 0]), tEq _ (S s), tEq _ (.bool (tv s)), tEq _ (S s), tEq _ (.bool (tv s)), tEq _ (.bool true), tEq _ (.bool true), tEq _ (.bool true), tEq _ (.bool false), tEq _ (.bool true), tEq _ (.bool true), tEq _ (.bool true), tEq _ (.bool false), tEq _ (.bool true), tEq _ (.bool true), tEq _ (.bool true), tEq _ (.bool true), tEq _ (.bool true), tEq _ (.bool true)] (by kernel_rfl) (RS.refl _) (fun _ _ _ => RS.trans) (by kernel_rfl) (trivial) ?_ ?_
    · refine ⟨?_, ?_, ?_, ?_, ?_, ?_, ?_, ?_, ?_, ?_, ?_, ?_, ?_, ?_, ?_, ?_, ?_, ?_, ?_, ?_, ?_, ?_, ?_, trivial⟩
      · intro k' w' ρ hk' hR hM hF
        replace hk' : k' < 23 := hk'
        obtain ⟨f0, -⟩ := hF
        replace f0 : ρ (.tmp 3) = .pointer (some ⟨w1.heap.size, 0, none⟩) := f0
        refine good_of fun K hK => ?_
        have z0 := (hR.of_drew.cell tz (by simp) 0).trans (tc 0); have z1 := (hR.of_drew.cell tz (by simp) 1).trans (tc 1); go_simp; exact hK _ _ (RS.refl _ _) (trivial) rfl
      · intro k' w' ρ hk' hR hM hF
        replace hk' : k' < 23 := hk'
        obtain ⟨f0, -⟩ := hF
        replace f0 : ρ (.func _) = .func (.func _) #[] #[] := f0
        refine good_of fun K hK => ?_
        go_simp; refine (specHistoryOf_any _).mono ?_; rintro e wc ⟨u, rfl, ho, hb⟩; exact ⟨_, rfl, hK _ _ ((RS.refl _ _).below hb) trivial ⟨u, rfl, rdM_own1 ho⟩⟩
      · intro k' w' ρ hk' hR hM hF
        replace hk' : k' < 23 := hk'
        obtain ⟨f0, f1, f2, -⟩ := hF
        replace f0 : ρ (.func _) = .func (.func _) #[] #[] := f0
        replace f1 : ρ (.tmp 31) = .agg #[.slice HA 1 hc, .int .i64 0] := f1
        refine good_of fun K hK => ?_
        obtain ⟨u, f2, hu⟩ := f2; replace f2 : ρ (.tmp 32) = .agg #[u, .int .i64 0] := f2; have Hv := Lib.hid (H.out.up hR.of_drew.to_below); have HU := Lib.hid hu; clear hu; go_simp; refine (sameHistory_same _ _ _ _ _ Hv.out HU.out).mono ?_; rintro e wc ⟨rfl, hb⟩; exact ⟨_, rfl, hK _ _ ((RS.refl _ _).below hb) trivial rfl⟩
      · intro k' w' ρ hk' hR hM hF
        replace hk' : k' < 23 := hk'
        obtain ⟨f0, -⟩ := hF
        replace f0 : ρ (.tmp 33) = .bool true := f0
        exact ⟨RS.refl _ _, trivial, f0⟩
      · intro k' w' ρ hk' hR hM hF
        replace hk' : k' < 23 := hk'
        obtain ⟨f0, -⟩ := hF
        replace f0 : ρ (.tmp 3) = .pointer (some ⟨w1.heap.size, 0, none⟩) := f0
        refine fun u hu => ⟨fun _ => ?_, fun hn => absurd hu hn⟩
        refine good_of fun K hK => ?_
        have z0 := (hR.of_drew.cell tz (by simp) 0).trans (tc 0); have z1 := (hR.of_drew.cell tz (by simp) 1).trans (tc 1); go_simp; exact hK _ _ (RS.refl _ _) (trivial) rfl
      · intro k' w' ρ hk' hR hM hF
        replace hk' : k' < 23 := hk'
        obtain ⟨f0, -⟩ := hF
        replace f0 : ρ (.tmp 4) = S s := f0
        refine fun u hu => ⟨fun _ => ?_, fun hn => absurd hu hn⟩
        exact ⟨RS.refl _ _, trivial, f0⟩
      · intro k' w' ρ hk' hR hM hF
        replace hk' : k' < 23 := hk'
        obtain ⟨f0, f1, f2, -⟩ := hF
        replace f0 : ρ (.func _) = .func (.func _) #[] #[] := f0
        replace f1 : ρ (.tmp 35) = .agg #[.slice HA 1 hc, .int .i64 0] := f1
        replace f2 : ρ (.tmp 36) = S s := f2
        refine fun u hu => ⟨fun _ => ?_, fun hn => absurd hu hn⟩
        refine good_of fun K hK => ?_
        have Hv := Lib.hid (H.out.up hR.of_drew.to_below); go_simp; refine (valid_first _ s _ Hv.out hs).mono ?_; rintro e wc ⟨rfl, hb⟩; exact ⟨_, rfl, hK _ _ ((RS.refl _ _).below hb) trivial rfl⟩
      · intro k' w' ρ hk' hR hM hF
        replace hk' : k' < 23 := hk'
        obtain ⟨f0, -⟩ := hF
        replace f0 : ρ (.tmp 4) = S s := f0
        refine fun u hu => ⟨fun _ => ?_, fun hn => absurd hu hn⟩
        exact ⟨RS.refl _ _, trivial, f0⟩
      · intro k' w' ρ hk' hR hM hF
        replace hk' : k' < 23 := hk'
        obtain ⟨f0, f1, -⟩ := hF
        replace f0 : ρ (.func _) = .func (.func _) #[] #[] := f0
        replace f1 : ρ (.tmp 38) = S s := f1
        refine fun u hu => ⟨fun _ => ?_, fun hn => absurd hu hn⟩
        refine good_of fun K hK => ?_
        go_simp; refine (specTextValid_any s _ (by unfold maxLen; omega)).mono ?_; rintro e wc ⟨rfl, rfl⟩; exact ⟨_, rfl, hK _ _ (RS.refl _ _) trivial rfl⟩
      · intro k' w' ρ hk' hR hM hF
        replace hk' : k' < 23 := hk'
        obtain ⟨f0, f1, -⟩ := hF
        replace f0 : ρ (.tmp 37) = .bool (tv s) := f0
        replace f1 : ρ (.tmp 39) = .bool (tv s) := f1
        refine fun u hu => ⟨fun _ => ?_, fun hn => absurd hu hn⟩
        refine good_of fun K hK => ?_
        go_simp
        exact hK _ _ (RS.refl _ _) (trivial) (rfl)
      · intro k' w' ρ hk' hR hM hF
        replace hk' : k' < 23 := hk'
        obtain ⟨f0, f1, f2, -⟩ := hF
        replace f0 : ρ (.tmp 34) = .bool true := f0
        replace f1 : ρ (.tmp 40) = .bool true := f1
        replace f2 : ρ (.const (.bool false)) = .bool false := f2
        refine good_of fun K hK => ?_
        go_simp
        exact hK _ _ (RS.refl _ _) (trivial) (rfl)
      · intro k' w' ρ hk' hR hM hF
        replace hk' : k' < 23 := hk'
        obtain ⟨f0, -⟩ := hF
        replace f0 : ρ (.tmp 41) = .bool true := f0
        exact ⟨RS.refl _ _, trivial, f0⟩
      · intro k' w' ρ hk' hR hM hF
        replace hk' : k' < 23 := hk'
        obtain ⟨f0, -⟩ := hF
        replace f0 : ρ (.tmp 7) = .bool false := f0
        refine fun u hu => ⟨fun _ => ?_, fun hn => absurd hu hn⟩
        exact ⟨RS.refl _ _, trivial, f0⟩
      · intro k' w' ρ hk' hR hM hF
        replace hk' : k' < 23 := hk'
        obtain ⟨f0, -⟩ := hF
        replace f0 : ρ (.tmp 43) = .bool false := f0
        refine fun u hu => ⟨fun _ => ?_, fun hn => absurd hu hn⟩
        refine good_of fun K hK => ?_
        go_simp
        exact hK _ _ (RS.refl _ _) (trivial) (rfl)
      · intro k' w' ρ hk' hR hM hF
        replace hk' : k' < 23 := hk'
        obtain ⟨f0, f1, f2, -⟩ := hF
        replace f0 : ρ (.tmp 42) = .bool true := f0
        replace f1 : ρ (.tmp 44) = .bool true := f1
        replace f2 : ρ (.const (.bool false)) = .bool false := f2
        refine good_of fun K hK => ?_
        go_simp
        exact hK _ _ (RS.refl _ _) (trivial) (rfl)
      · intro k' w' ρ hk' hR hM hF
        replace hk' : k' < 23 := hk'
        obtain ⟨f0, -⟩ := hF
        replace f0 : ρ (.tmp 45) = .bool true := f0
        exact ⟨RS.refl _ _, trivial, f0⟩
      · intro k' w' ρ hk' hR hM hF
        replace hk' : k' < 23 := hk'
        obtain ⟨f0, -⟩ := hF
        replace f0 : ρ (.tmp 10) = .bool false := f0
        refine fun u hu => ⟨fun _ => ?_, fun hn => absurd hu hn⟩
        exact ⟨RS.refl _ _, trivial, f0⟩
      · intro k' w' ρ hk' hR hM hF
        replace hk' : k' < 23 := hk'
        obtain ⟨f0, -⟩ := hF
        replace f0 : ρ (.tmp 47) = .bool false := f0
        refine fun u hu => ⟨fun _ => ?_, fun hn => absurd hu hn⟩
        refine good_of fun K hK => ?_
        go_simp
        exact hK _ _ (RS.refl _ _) (trivial) (rfl)
      · intro k' w' ρ hk' hR hM hF
        replace hk' : k' < 23 := hk'
        obtain ⟨f0, f1, f2, -⟩ := hF
        replace f0 : ρ (.tmp 46) = .bool true := f0
        replace f1 : ρ (.tmp 48) = .bool true := f1
        replace f2 : ρ (.const (.bool false)) = .bool false := f2
        refine good_of fun K hK => ?_
        go_simp
        exact hK _ _ (RS.refl _ _) (trivial) (rfl)
      · intro k' w' ρ hk' hR hM hF
        replace hk' : k' < 23 := hk'
        obtain ⟨f0, -⟩ := hF
        replace f0 : ρ (.tmp 49) = .bool true := f0
        exact ⟨RS.refl _ _, trivial, f0⟩
      · intro k' w' ρ hk' hR hM hF
        replace hk' : k' < 23 := hk'
        obtain ⟨f0, -⟩ := hF
        replace f0 : ρ (.func _) = .func (.func _) #[] #[] := f0
        refine fun u hu => ⟨fun _ => ?_, fun hn => absurd hu hn⟩
        refine good_of fun K hK => ?_
        go_simp; refine (alive_any _).mono ?_; rintro e wc ⟨rfl, rfl⟩; exact ⟨_, rfl, hK _ _ (RS.refl _ _) trivial rfl⟩
      · intro k' w' ρ hk' hR hM hF
        replace hk' : k' < 23 := hk'
        obtain ⟨f0, f1, f2, -⟩ := hF
        replace f0 : ρ (.tmp 50) = .bool true := f0
        replace f1 : ρ (.tmp 51) = .bool true := f1
        replace f2 : ρ (.const (.bool false)) = .bool false := f2
        refine good_of fun K hK => ?_
        go_simp
        exact hK _ _ (RS.refl _ _) (trivial) (rfl)
      · intro k' w' ρ hk' hR hM hF
        replace hk' : k' < 23 := hk'
        obtain ⟨f0, -⟩ := hF
        replace f0 : ρ (.tmp 52) = .bool true := f0
        exact ⟨RS.refl _ _, trivial, f0⟩
    · intro w' hR hM
      rintro _ rfl
      rintro _ ⟨_, rfl, -⟩
      rintro _ rfl
      rintro _ rfl
      rintro _ rfl
      rintro _ rfl
      rintro _ rfl
      rintro _ rfl
      rintro _ rfl
      rintro _ rfl
      rintro _ rfl
      rintro _ rfl
      rintro _ rfl
      rintro _ rfl
      rintro _ rfl
      rintro _ rfl
      rintro _ rfl
      rintro _ rfl
      rintro _ rfl
      rintro _ rfl
      rintro _ rfl
      rintro _ rfl
      rintro _ rfl
    --END
      dsimp only [EndAll, Act.put]
      simp only [List.setIfInBounds_toArray, List.set_cons_zero, List.set_cons_succ]
      obtain ⟨w6, rfl⟩ : ∃ z, z = w' := ⟨_, rfl⟩
      have hb : Below w5.heap.size w5 w6 := hR.of_drew.to_below
      have hQ := up_trans hW hb
      clear hb hR hW H tc tf
      go_wp2_with fail
      go_ret
      exact ⟨rfl, hQ⟩
  · go_enter Try.func7, Try.ntmps7
    go_wp2_with fail
    go_ret
    exact ⟨rfl, Below.refl _ _⟩

end Go.Proofs.Ytjcdklkdpcncgaa
