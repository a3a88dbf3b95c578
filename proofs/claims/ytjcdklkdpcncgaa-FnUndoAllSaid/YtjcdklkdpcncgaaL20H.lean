/- What is proved here: the contract of l20History. No condition but that the code is a slice of bytes. -/
import Derived.Test.YtjcdklkdpcncgaaL20P
import Derived.Test.YtjcdklkdpcncgaaDrawT0
import Derived.Test.YtjcdklkdpcncgaaDrawC
namespace Go.Proofs.Ytjcdklkdpcncgaa
open Go.RowKit
set_option linter.unusedVariables false

/-- in the loop of l20History: box d holds a valid history of the text ls; box r is the result's. -/
def HLoop (g n : Nat) (zs : List Int) (p d r B : Nat) (w : World) (k : Nat) (ls : List UInt8) (wr : World) : Prop :=
  ∃ (q : Nat) (ms : List Mo) (a : Int) (o : List (List UInt8)) (v : Value), HGood ms a ls o ∧ Is wr d #[v, .int .i64 a] ∧ OwnM wr B v ms ∧ v.ownBlock ≠ some d ∧ Is wr r #[.slice none 0 0, .int .i64 0] ∧ d < wr.heap.size ∧ q + 1000 * k ≤ p + 9000 ∧ Rdr wr g n zs q ∧ w.grownBy wr (some g)
theorem hloop_put {g n : Nat} {zs : List Int} {p d r B q k : Nat} {w wr : World} {u A0 A1 : Value} {ms : List Mo} {a : Int} {t : List UInt8} {o : List (List UInt8)} (hi : Is wr d #[A0, A1]) (hr : Is wr r #[.slice none 0 0, .int .i64 0]) (hd : d < wr.heap.size) (hq : q + 1000 * k ≤ p + 9000) (hrd : Rdr wr g n zs q) (hgr : w.grownBy wr (some g))
    (hg : HGood ms a t o) (ho : OwnM wr B u ms) (hne : u.ownBlock ≠ some d) (hgd : g < d) (hrd2 : r ≠ d) (hwd : w.heap.size ≤ d) : HLoop g n zs p d r B w k t ((wr.setCell ⟨d, 0, none⟩ u).setCell ⟨d, 1, none⟩ (.int .i64 a)) :=
  ⟨q, ms, a, o, u, hg, put_is (V := #[u, .int .i64 a]) hi rfl, own_setn (own_setn ho ⟨d, 0, none⟩ u fun x hx e => hne (by rw [hx]; exact congrArg some e)) ⟨d, 1, none⟩ _ fun x hx e => hne (by rw [hx]; exact congrArg some e), hne,
    hr.of_block ((Below.heap_setCell _ ⟨d, 1, none⟩ _ r hrd2).trans (Below.heap_setCell wr ⟨d, 0, none⟩ u r hrd2)), by simpa [World.setCell] using hd, hq, gput_rdr hrd hgd _ _, gb_set (gb_set hgr ⟨d, 0, none⟩ u hwd) ⟨d, 1, none⟩ _ hwd⟩

/-- what l20History gives. -/
def L20HPost (g n : Nat) (zs : List Int) (p : Nat) (w : World) (e : Ending) (w' : World) : Prop :=
  ∃ (v : Value) (ms : List Mo) (a : Int) (s : List UInt8), e = .returned (.tuple #[.agg #[v, .int .i64 a], S s]) ∧ RdM w' v ms ∧ ms.length ≤ 30 ∧ s.length ≤ 130 ∧ (∀ x, v.ownBlock = some x → w.heap.size ≤ x) ∧ v ≠ .slice none 0 0 ∧ (∃ q, q ≤ p + 10000 ∧ Rdr w' g n zs q) ∧ w.grownBy w' (some g)

set_option maxRecDepth 100000 in
set_option maxHeartbeats 4000000 in
theorem l20History_any (g n : Nat) (zs : List Int) (p : Nat) (m : Int) (w : World) (hr : Rdr w g n zs p) (hp : p < 1000000) :
    Calls Try.prog 69 #[.pointer (some ⟨g, 0, none⟩), .int .i64 m] w (L20HPost g n zs p w) := by
  have hg := hr.lt
  have hW := World.grownBy.refl w (some g)
  go_enter Try.func69, Try.ntmps69
  go_wp2_with fail
  refine (l20Text0_any _ _ _ _ _ (hr.up (by (repeat (first | exact Below.refl _ _ | assumption | refine Below.drew ?_ | refine up_drewN ?_ _ | refine up_alloc ?_ _ | refine up_set ?_ _ _ (by first | exact Nat.le_refl _ | (simp; done) | (simp; omega) | omega) | refine up_trans ?_ (by assumption))))) (by omega)).mono ?_
  rintro e w1 ⟨s0, rfl, ht0, ⟨q1, hq1, hr1⟩, hb⟩
  have hG : w.grownBy w1 (some g) := (by (repeat (first | exact World.grownBy.refl _ _ | assumption | refine gb_drew ?_ | refine gb_drewN ?_ _ | refine gb_alloc ?_ _ | refine gb_here ?_ rfl _ | refine gb_set ?_ _ _ (by first | exact Nat.le_refl _ | (simp; done) | (simp; omega) | omega) | refine gb_trans ?_ (by assumption) | refine gb_below ?_ (by assumption)))); have sw1 := hG.size; replace hW := gb_trans hW hG; clear hG
  have rc : ∀ o, w1.cell? ⟨w.heap.size, o, none⟩ = #[.slice none 0 0, .int .i64 0][o]? := gup_c hb (by simp <;> omega) (by omega) (fun o => by simp [go_sem]); have rf : ∀ o, w1.frozen? ⟨w.heap.size, o, none⟩ = false := gup_f hb (by simp <;> omega) (by omega) (fun o => by simp [go_sem]); have rz : w.heap.size < w1.heap.size := (by have := hb.size; (try simp at this); omega); have ry := rz
  have hs1 : w.heap.size < w1.heap.size := by omega
  have HT := Lib.hid ht0
  clear hb hr ht0 ry
  go_wp2_with fail
  refine (specHistoryOf_any _).mono ?_
  rintro e w2 ⟨v2, rfl, ho2, hb⟩
  have hG : w1.grownBy w2 (some g) := (by (repeat (first | exact World.grownBy.refl _ _ | assumption | refine gb_drew ?_ | refine gb_drewN ?_ _ | refine gb_alloc ?_ _ | refine gb_here ?_ rfl _ | refine gb_set ?_ _ _ (by first | exact Nat.le_refl _ | (simp; done) | (simp; omega) | omega) | refine gb_trans ?_ (by assumption) | refine gb_below ?_ (by assumption)))); replace rc := gup_c hG rz (by omega) rc; replace rf := gup_f hG rz (by omega) rf; replace rz := Nat.lt_of_lt_of_le rz hG.size; have sw2 := hG.size; replace hW := gb_trans hW hG; clear hG
  have hr2 := hr1.up hb
  obtain ⟨A2, c2, rfl, -, -⟩ := (RdL.of_own (f := moC) (bs := [m0]) ho2).form
  simp only [List.length_cons, List.length_nil, Nat.zero_add] at ho2 ⊢
  have HO := Lib.hid ho2
  clear hb hr1 ho2
  go_wp2_with fail
  refine (pick_any _ _ _ _ _ _ (hr2.up (by (repeat (first | exact Below.refl _ _ | assumption | refine Below.drew ?_ | refine up_drewN ?_ _ | refine up_alloc ?_ _ | refine up_set ?_ _ _ (by first | exact Nat.le_refl _ | (simp; done) | (simp; omega) | omega) | refine up_trans ?_ (by assumption))))) (by omega)).mono ?_
  rintro e w3 ⟨x3, rfl, h1, h2, hr3, hb⟩
  have bd := hb.block w2.heap.size (by simp) (by simp; omega)
  have br := hb.block w.heap.size (by simp; omega) (by simp; omega)
  have hx3 := h1 (by omega)
  have HL : Hid (HLoop g n zs p w2.heap.size w.heap.size (w.heap.size + 1) w x3.toNat s0 w3) := Lib.hid (by
    have o2 := HO.out
    refine ⟨q1 + 1, [m0], 0, [s0], .slice A2 1 c2, good_one HT.out, (new_is w2 _ _).of_block bd, own_base (gup_own (own_up o2 (up_alloc (Below.refl _ _) _)) hb (by omega)) (by omega), own_near o2 (Nat.le_refl _), ?_, ?_, by omega, hr3, gb_trans (gb_alloc hW _) hb⟩
    · exact (Is.up (⟨rc, rf⟩ : Is w2 w.heap.size #[.slice none 0 0, .int .i64 0]) rz (up_alloc (Below.refl _ _) _)).of_block br
    · have := hb.size; simp at this; omega)
  have hgd : g < w2.heap.size := by omega
  have hrd : w.heap.size ≠ w2.heap.size := by omega
  have hwd : w.heap.size ≤ w2.heap.size := by omega
  obtain ⟨k3, rfl⟩ : ∃ k3 : Nat, x3 = k3 := ⟨x3.toNat, by omega⟩
  have hk3 : k3 ≤ 8 := by omega
  rw [Int.toNat_natCast] at HL
  clear hb hr2 hr3 h1 h2 rc rf rz HO HT bd br hx3 hW
  generalize w2.heap.size = d at *
  go_wp2_with fail
  go_loopw [6, 8] (fun s i wr => ∃ (k : Nat) (ls : List UInt8), k ≤ 8 ∧ i = .int .i64 k ∧ s = S ls ∧ Hid (HLoop g n zs p d w.heap.size (w.heap.size + 1) w k ls wr)) (fun _ i _ => (intOf i).toNat)
  case atStart => exact ⟨k3, s0, hk3, rfl, rfl, HL⟩
  case round =>
    obtain ⟨k, ls, hk, rfl, rfl, HL⟩ := hrel
    obtain ⟨q, ms0, a0, o0, v0, hg0, hi0, ho0, hn0, hir, hdz, hq, hrw, hgr⟩ := HL.out
    clear HL
    obtain ⟨VA, VC, rfl, -, -⟩ := (RdL.of_own (f := moC) (bs := ms0) ho0).form
    have hls := tv_len hg0.t
    by_cases h0 : 0 < k
    · have i1 : (0 : Int) < (k : Int) := by omega
      have HG0 := Lib.hid hg0
      have HI0 := Lib.hid hi0
      have HO0 := Lib.hid ho0
      have HIR := Lib.hid hir
      clear hg0 hi0 ho0 hir
      go_wp2_with fail
      refine (pick_any _ _ _ _ _ _ (hrw.up (by (repeat (first | exact Below.refl _ _ | assumption | refine Below.drew ?_ | refine up_drewN ?_ _ | refine up_alloc ?_ _ | refine up_set ?_ _ _ (by first | exact Nat.le_refl _ | (simp; done) | (simp; omega) | omega) | refine up_trans ?_ (by assumption))))) (by omega)).mono ?_
      rintro e w4 ⟨x4, rfl, h1, h2, hr4, hb⟩
      have hx4 := h1 (by omega)
      have hrs : w.heap.size < wr.heap.size := by omega
      have hi4 := HI0.out.of_block (hb.block d hdz (by simp; omega))
      have ho4 := gup_own HO0.out hb (by omega)
      have hir4 := HIR.out.of_block (hb.block w.heap.size hrs (by simp; omega))
      have hdz4 := Nat.lt_of_lt_of_le hdz hb.size
      have hgr4 := gb_trans hgr hb
      have hs4' : w.heap.size < w4.heap.size := by have := hb.size; omega
      have hgn : (Value.slice VA ms0.length VC).ownBlock ≠ some g := own_far ho4 (by omega)
      have hrn : (Value.slice VA ms0.length VC).ownBlock ≠ some w.heap.size := own_far ho4 (by omega)
      clear hb h1 h2 hrw hgr hdz HI0 HO0 HIR hrs
      by_cases e0 : x4 = 0
      · subst e0
        have dc := hi4.1
        have df := hi4.2
        have H4 := Lib.hid hi4
        have HIR := Lib.hid hir4
        have HRD := Lib.hid (rdM_good ho4 HG0.out)
        clear hi4 hir4 ho4
        go_wp2_with fail
        refine (specBack_good _ ms0 a0 ls _ o0 HRD.out HG0.out).mono ?_
        rintro e w5 ⟨u, ms1, a1, t1, ok1, o1, rfl, ho5, hg5, hb⟩
        have dc5 := up_c hb hdz4 dc
        have df5 := up_f hb hdz4 df
        obtain ⟨UA, UC, rfl, -, -⟩ := (RdL.of_own (f := moC) (bs := ms1) ho5).form
        have hs5 := hb.size
        have HL : Hid (HLoop g n zs p d w.heap.size (w.heap.size + 1) w (k - 1) t1 ((w5.setCell ⟨d, 0, none⟩ (.slice UA ms1.length UC)).setCell ⟨d, 1, none⟩ (.int .i64 a1))) :=
          Lib.hid (hloop_put (H4.out.up hdz4 hb) (HIR.out.up hs4' hb) (by omega) (by omega : (q + 1) + 1000 * (k - 1) ≤ p + 9000) (hr4.up hb) (gb_below hgr4 hb) hg5 (own_base ho5 (by omega)) (own_far ho5 hdz4) hgd hrd hwd)
        clear hb ho5 hg5 H4 HIR HRD hr4 hgr4 HG0 dc df
        go_wp2_with fail
        go_roundw
        case rel => exact ⟨k - 1, t1, by omega, by rw [show ((k - 1 : Nat) : Int) = (k : Int) - 1 by omega], rfl, HL⟩
        case measure => simp [intOf]; omega
      · obtain ⟨W0, rfl⟩ : ∃ z, z = w4 := ⟨_, rfl⟩
        obtain ⟨qq, hqq⟩ : ∃ z, z = q + 1 := ⟨_, rfl⟩
        rw [← hqq] at hr4
        have hqb : qq ≤ p + 9000 := by omega
        have hgB : g < W0.heap.size := by omega
        have hdB : d < W0.heap.size := hdz4
        have MM : MR g n zs qq 60 0 W0.drew := MR.drew ⟨qq, by omega, hr4⟩
        have DD : Is W0.drew d #[.slice VA ms0.length VC, .int .i64 a0] := hi4
        have HV := Lib.hid (show OwnM W0 (w.heap.size + 1) (.slice VA ms0.length VC) ms0 ∧ HGood ms0 a0 ls o0 ∧ (Value.slice VA ms0.length VC).ownBlock ≠ some g ∧ (Value.slice VA ms0.length VC).ownBlock ≠ some d from ⟨ho4, HG0.out, hgn, hn0⟩)
        have HIR := Lib.hid hir4
        have HVB := Lib.hid (show ∀ x, (Value.slice VA ms0.length VC).ownBlock = some x → x < W0.heap.size from fun x hx => (ho4.lt x hx).2)
        clear hi4 hir4 ho4 hr4 hgn hn0 HG0 hrn
        by_cases e1 : x4 = 1
        · subst e1
          clear e0
          go_wp2_with fail
          --EVER{spec.l20History;11;l20h11}
          refine wp_region_everLV (R := RG g d (.slice VA ms0.length VC)) (M := fun k w => MR g n zs qq 60 k w) 12 (fun w => Is w d #[.slice VA ms0.length VC, .int .i64 a0]) [(gEq g d _ (.agg #[.slice VA ms0.length VC, .int .i64 a0])).lV, (gEq g d _ (S ls)).lV, (gEq g d _ (.pointer (some ⟨g, 0, none⟩))).lV, (gEq g d _ (.pointer (some ⟨d, 0, none⟩))).lV, (gEq g d _ (.slice VA ms0.length VC)).lV, (gEq g d _ (.int .i64 ms0.length)).lV, (gOf g d _ isInt).lV, (gTup W0.heap.size g d hgB hdB _).lV, (gTup W0.heap.size g d hgB hdB _).lV, gExt g d _ (gHis W0.heap.size g d hgB hdB _) 41 0, gExt g d _ (gOf g d _ isStr) 41 1, (gAny g d _).lV, gPut g d _ 50, gSame g d _ (gOf g d _ isStr) 51] (by kernel_rfl) (RG.refl _ _ _) (fun _ _ _ => RG.trans) (by kernel_rfl) (by kernel_rfl) (MM) (DD) ?_ ?_
          · refine ⟨?_, ?_, ?_, ?_, ?_, ?_, ?_, ?_, ?_, ?_, ?_, ?_, ?_, ?_, trivial⟩
            · intro k' w' ρ hk' hR hM hD hF
              replace hk' : k' < 14 := hk'
              obtain ⟨f0, -⟩ := hF
              replace f0 : ρ (.tmp 7) = .pointer (some ⟨d, 0, none⟩) := f0
              refine goodL_ofV (fun _ _ => trivial) fun K hK => ?_
              have z := hD (by rfl); have z0 := z.1 0; have z1 := z.1 1; go_simp; exact hK _ _ (RG.refl _ _ _ _) ⟨hM.next, fun _ h => h⟩ rfl
            · intro k' w' ρ hk' hR hM hD hF
              replace hk' : k' < 14 := hk'
              obtain ⟨f0, -⟩ := hF
              replace f0 : ρ (.tmp 6) = S ls := f0
              exact ⟨RG.refl _ _ _ _, ⟨hM.next, fun _ h => h⟩, f0, trivial⟩
            · intro k' w' ρ hk' hR hM hD hF
              replace hk' : k' < 14 := hk'
              obtain ⟨f0, -⟩ := hF
              replace f0 : ρ (.tmp 0) = .pointer (some ⟨g, 0, none⟩) := f0
              exact ⟨RG.refl _ _ _ _, ⟨hM.next, fun _ h => h⟩, f0, trivial⟩
            · intro k' w' ρ hk' hR hM hD hF
              replace hk' : k' < 14 := hk'
              obtain ⟨f0, -⟩ := hF
              replace f0 : ρ (.tmp 7) = .pointer (some ⟨d, 0, none⟩) := f0
              refine goodL_ofV (fun _ _ => trivial) fun K hK => ?_
              go_simp
              exact hK _ _ (RG.refl _ _ _ _) (⟨hM.next, fun _ h => h⟩) (rfl)
            · intro k' w' ρ hk' hR hM hD hF
              replace hk' : k' < 14 := hk'
              obtain ⟨f0, -⟩ := hF
              replace f0 : ρ (.tmp 45) = .pointer (some ⟨d, 0, none⟩) := f0
              refine goodL_ofV (fun _ _ => trivial) fun K hK => ?_
              have z := hD (by rfl); have z0 := z.1 0; go_simp; exact hK _ _ (RG.refl _ _ _ _) ⟨hM.next, fun _ h => h⟩ rfl
            · intro k' w' ρ hk' hR hM hD hF
              replace hk' : k' < 14 := hk'
              obtain ⟨f0, -⟩ := hF
              replace f0 : ρ (.tmp 46) = .slice VA ms0.length VC := f0
              refine goodL_ofV (fun _ _ => trivial) fun K hK => ?_
              go_simp
              exact hK _ _ (RG.refl _ _ _ _) (⟨hM.next, fun _ h => h⟩) (rfl)
            · intro k' w' ρ hk' hR hM hD hF
              replace hk' : k' < 14 := hk'
              obtain ⟨f0, f1, f2, -⟩ := hF
              replace f0 : ρ (.func _) = .func (.func _) #[] #[] := f0
              replace f1 : ρ (.tmp 44) = .pointer (some ⟨g, 0, none⟩) := f1
              replace f2 : ρ (.tmp 47) = .int .i64 ms0.length := f2
              refine goodL_ofV (fun _ _ => trivial) fun K hK => ?_
              obtain ⟨q, hq, hr⟩ := hM; have HR := Lib.hid hr; clear hr; go_simp; refine (pick_any g n zs q ms0.length _ HR.out (by omega)).mono ?_; rintro e wc ⟨x, rfl, _, _, hr', hb⟩; exact ⟨_, rfl, hK _ _ (RG.of_grown (Nat.lt_of_lt_of_le hdB hR.size) (by omega) hb) ⟨⟨q + 1, by omega, hr'⟩, fun _ h => h.of_block (hb.block d (Nat.lt_of_lt_of_le hdB hR.size) (by simp; omega))⟩ ⟨x, rfl⟩⟩
            · intro k' w' ρ hk' hR hM hD hF
              replace hk' : k' < 14 := hk'
              obtain ⟨f0, f1, f2, f3, -⟩ := hF
              replace f0 : ρ (.func _) = .func (.func _) #[] #[] := f0
              replace f1 : ρ (.tmp 42) = .agg #[.slice VA ms0.length VC, .int .i64 a0] := f1
              replace f2 : ρ (.tmp 43) = S ls := f2
              refine goodL_ofV (fun _ _ => trivial) fun K hK => ?_
              obtain ⟨to_, f3⟩ := f3; replace f3 : ρ (.tmp 48) = .int .i64 to_ := f3; have Hv := Lib.hid (rdM_good (hR.of_drew.own HV.out.1 HV.out.2.2.1 HV.out.2.2.2) HV.out.2.1); go_simp; refine (specTo_good _ ms0 a0 ls to_ _ o0 Hv.out HV.out.2.1).mono ?_; rintro e wc ⟨u, ms, a, t, ok, o, rfl, ho, hg2, hb⟩; exact ⟨_, rfl, hK _ _ (RG.of_below (Nat.lt_of_lt_of_le hdB hR.size) hb) ⟨hM.up hb, fun _ h => h.up (Nat.lt_of_lt_of_le hdB hR.size) hb⟩ ⟨u, ms, a, t, ok, o, rfl, own_base ho hR.size, hg2⟩⟩
            · intro k' w' ρ hk' hR hM hD hF
              replace hk' : k' < 14 := hk'
              obtain ⟨f0, -⟩ := hF
              exact ⟨RG.refl _ _ _ _, ⟨hM.next, fun _ h => h⟩, f0, trivial⟩
            · intro k' w' ρ hk' hR hM hD hF
              replace hk' : k' < 14 := hk'
              obtain ⟨f0, -⟩ := hF
              refine goodL_ofsV fun K hK => ?_
              obtain ⟨u, ms, a, t, ok, o, f0, h1, h2⟩ := f0; replace f0 : ρ (.tmp 41) = .tuple #[.agg #[u, .int .i64 a], S t, .bool ok] := f0; have Q := Lib.hid (And.intro h1 h2); clear h1 h2; go_simp; exact hK _ _ (RG.refl _ _ _ _) ⟨hM.next, fun _ h => h⟩ ⟨u, ms, a, t, o, rfl, Q.out.1, Q.out.2⟩ (by intro x y z hx; replace hx := hx.symm.trans f0; simp at hx; obtain ⟨rfl, rfl, rfl⟩ := hx; rfl)
            · intro k' w' ρ hk' hR hM hD hF
              replace hk' : k' < 14 := hk'
              obtain ⟨f0, -⟩ := hF
              refine goodL_ofsV fun K hK => ?_
              obtain ⟨u, ms, a, t, ok, o, f0, h1, h2⟩ := f0; replace f0 : ρ (.tmp 41) = .tuple #[.agg #[u, .int .i64 a], S t, .bool ok] := f0; have Q := Lib.hid (And.intro h1 h2); clear h1 h2; go_simp; exact hK _ _ (RG.refl _ _ _ _) ⟨hM.next, fun _ h => h⟩ ⟨t, rfl⟩ (by intro x y z hx; replace hx := hx.symm.trans f0; simp at hx; obtain ⟨rfl, rfl, rfl⟩ := hx; rfl)
            · intro k' w' ρ hk' hR hM hD hF
              replace hk' : k' < 14 := hk'
              obtain ⟨f0, -⟩ := hF
              refine goodL_ofV (fun _ _ => trivial) fun K hK => ?_
              obtain ⟨u, ms, a, t, ok, o, f0, h1, h2⟩ := f0; replace f0 : ρ (.tmp 41) = .tuple #[.agg #[u, .int .i64 a], S t, .bool ok] := f0; have Q := Lib.hid (And.intro h1 h2); clear h1 h2; go_simp; exact hK _ _ (RG.refl _ _ _ _) ⟨hM.next, fun _ h => h⟩ trivial
            · intro k' w' ρ hk' hR hM hD hF
              replace hk' : k' < 14 := hk'
              obtain ⟨f0, f1, -⟩ := hF
              replace f0 : ρ (.tmp 7) = .pointer (some ⟨d, 0, none⟩) := f0
              refine goodL_ofsV fun K hK => ?_
              obtain ⟨u, ms, a, t, o, f1, h1, h2⟩ := f1; obtain ⟨A1, c1, rfl, -, -⟩ := (RdL.of_own (f := moC) (bs := ms) h1).form; replace f1 : ρ (.tmp 50) = .agg #[.slice A1 ms.length c1, .int .i64 a] := f1; have z := hD (by rfl); have BB := Lib.hid (gput_mk (g := g) (u := .slice A1 ms.length c1) (y := a) z); have e0 := z.1 0; have e1 := z.1 1; simp only [List.getElem?_toArray, List.getElem?_cons_zero, List.getElem?_cons_succ] at e0 e1; have qf := z.2; have HM := Lib.hid hM; clear h1 h2 z hM hD; go_simp; refine hK _ _ BB.out.2 ⟨?_, fun hn => absurd rfl hn⟩ trivial ?_; (obtain ⟨q, hq, hr⟩ := HM.out; exact ⟨q, by rw [Nat.mul_add]; omega, gput_rdr hr hgd _ _⟩); (intro u0 y hu hne; replace hu := hu.symm.trans f1; simp at hu; obtain ⟨rfl, rfl⟩ := hu; exact ⟨by simpa [World.setCell] using Nat.lt_of_lt_of_le hdB hR.size, BB.out.1⟩)
            · intro k' w' ρ hk' hR hM hD hF
              replace hk' : k' < 14 := hk'
              obtain ⟨f0, -⟩ := hF
              refine goodL_ofsV fun K hK => ?_
              obtain ⟨t, f0⟩ := f0; replace f0 : ρ (.tmp 51) = S t := f0; go_simp; exact hK _ _ (RG.refl _ _ _ _) ⟨hM.next, fun _ h => h⟩ ⟨t, rfl⟩ f0.symm
          · intro w' hR hM
            rintro _ rfl -
            rintro _ rfl -
            rintro _ rfl -
            rintro _ rfl -
            rintro _ rfl -
            rintro _ rfl -
            rintro _ ⟨_, rfl⟩ -
            rintro _ - -
            rintro _ ⟨u1, ms1, a1, t1, ok1, o1, rfl, ho1, hg1⟩ -
            rintro hv - hs1
            rintro sv - hs2
            rintro _ - -
            rintro _ - hs3
            rintro xv - hs4
          --END
          --END
            obtain ⟨w5, rfl⟩ : ∃ z, z = w' := ⟨_, rfl⟩
            have e1 : hv = .agg #[u1, .int .i64 a1] := hs1 _ _ _ rfl
            have e2 : sv = S t1 := hs2 _ _ _ rfl
            subst e1 e2
            obtain ⟨hd5, hi5⟩ := hs3 u1 a1 rfl (own_new ho1 (by have := hg1.n1; omega) HVB.out)
            have e4 : xv = S t1 := hs4
            subst e4
            have HL : Hid (HLoop g n zs p d w.heap.size (w.heap.size + 1) w (k - 1) t1 w5) := Lib.hid (by
              obtain ⟨q6, hq6, hr6⟩ := hM
              replace hq6 : q6 ≤ qq + 60 * 14 := hq6
              exact ⟨q6, ms1, a1, o1, u1, hg1, hi5, own_base ho1 (by omega), own_far ho1 hdB, HIR.out.of_block (hR.block w.heap.size hs4' (by omega) hrd), hd5, by omega, hr6, hR.of_drew.to_grown hgr4 hwd⟩)
            clear hR hM hs1 hs2 hs3 hs4 ho1 hg1 hi5 hd5 HIR HV HVB MM DD
            dsimp only [EndAllLV, Act.put]
            go_wp2_with fail
            go_roundw
            case rel => exact ⟨k - 1, t1, by omega, by rw [show ((k - 1 : Nat) : Int) = (k : Int) - 1 by omega], rfl, HL⟩
            case measure => simp [intOf]; omega
        · go_wp2_with fail
          --EVER{spec.l20History;7;l20h7}
          refine wp_region_everLV (R := RG g d (.slice VA ms0.length VC)) (M := fun k w => MR g n zs qq 60 k w) 10 (fun w => Is w d #[.slice VA ms0.length VC, .int .i64 a0]) [(gEq g d _ (.agg #[.slice VA ms0.length VC, .int .i64 a0])).lV, (gEq g d _ (S ls)).lV, (gEq g d _ (.pointer (some ⟨g, 0, none⟩))).lV, (gEq g d _ (S ls)).lV, (gOf g d _ isCh).lV, (gTup W0.heap.size g d hgB hdB _).lV, (gTup W0.heap.size g d hgB hdB _).lV, gExt g d _ (gHis W0.heap.size g d hgB hdB _) 20 0, gExt g d _ (gOf g d _ isStr) 20 1, (gAny g d _).lV, gPut g d _ 27, gSame g d _ (gOf g d _ isStr) 28] (by kernel_rfl) (RG.refl _ _ _) (fun _ _ _ => RG.trans) (by kernel_rfl) (by kernel_rfl) (MM) (DD) ?_ ?_
          · refine ⟨?_, ?_, ?_, ?_, ?_, ?_, ?_, ?_, ?_, ?_, ?_, ?_, trivial⟩
            · intro k' w' ρ hk' hR hM hD hF
              replace hk' : k' < 12 := hk'
              obtain ⟨f0, -⟩ := hF
              replace f0 : ρ (.tmp 7) = .pointer (some ⟨d, 0, none⟩) := f0
              refine goodL_ofV (fun _ _ => trivial) fun K hK => ?_
              have z := hD (by rfl); have z0 := z.1 0; have z1 := z.1 1; go_simp; exact hK _ _ (RG.refl _ _ _ _) ⟨hM.next, fun _ h => h⟩ rfl
            · intro k' w' ρ hk' hR hM hD hF
              replace hk' : k' < 12 := hk'
              obtain ⟨f0, -⟩ := hF
              replace f0 : ρ (.tmp 6) = S ls := f0
              exact ⟨RG.refl _ _ _ _, ⟨hM.next, fun _ h => h⟩, f0, trivial⟩
            · intro k' w' ρ hk' hR hM hD hF
              replace hk' : k' < 12 := hk'
              obtain ⟨f0, -⟩ := hF
              replace f0 : ρ (.tmp 0) = .pointer (some ⟨g, 0, none⟩) := f0
              exact ⟨RG.refl _ _ _ _, ⟨hM.next, fun _ h => h⟩, f0, trivial⟩
            · intro k' w' ρ hk' hR hM hD hF
              replace hk' : k' < 12 := hk'
              obtain ⟨f0, -⟩ := hF
              replace f0 : ρ (.tmp 6) = S ls := f0
              exact ⟨RG.refl _ _ _ _, ⟨hM.next, fun _ h => h⟩, f0, trivial⟩
            · intro k' w' ρ hk' hR hM hD hF
              replace hk' : k' < 12 := hk'
              obtain ⟨f0, f1, f2, f3, -⟩ := hF
              replace f0 : ρ (.func _) = .func (.func _) #[] #[] := f0
              replace f1 : ρ (.tmp 23) = .pointer (some ⟨g, 0, none⟩) := f1
              replace f2 : ρ (.tmp 24) = S ls := f2
              replace f3 : ρ (.const (.int .i64 0)) = .int .i64 0 := f3
              refine goodL_ofV (fun _ _ => trivial) fun K hK => ?_
              obtain ⟨q, hq, hr⟩ := hM; have HR := Lib.hid hr; clear hr; go_simp; refine (l20Change_any g n zs q 0 ls _ HR.out (by omega) (by omega)).mono ?_; rintro e wc ⟨qa, qc, ct, rfl, hct, ⟨q', hq', hr'⟩, hb⟩; exact ⟨_, rfl, hK _ _ (RG.of_grown (Nat.lt_of_lt_of_le hdB hR.size) (by omega) hb) ⟨⟨q', by omega, hr'⟩, fun _ h => h.of_block (hb.block d (Nat.lt_of_lt_of_le hdB hR.size) (by simp; omega))⟩ ⟨qa, qc, ct, rfl, hct⟩⟩
            · intro k' w' ρ hk' hR hM hD hF
              replace hk' : k' < 12 := hk'
              obtain ⟨f0, f1, f2, f3, -⟩ := hF
              replace f0 : ρ (.func _) = .func (.func _) #[] #[] := f0
              replace f1 : ρ (.tmp 21) = .agg #[.slice VA ms0.length VC, .int .i64 a0] := f1
              replace f2 : ρ (.tmp 22) = S ls := f2
              refine goodL_ofV (fun _ _ => trivial) fun K hK => ?_
              obtain ⟨qa, qc, ct, f3, hct⟩ := f3; replace f3 : ρ (.tmp 25) = .agg #[.int .i64 qa, .int .i64 qc, S ct] := f3; have Hv := Lib.hid (rdM_good (hR.of_drew.own HV.out.1 HV.out.2.2.1 HV.out.2.2.2) HV.out.2.1); go_simp; refine (specDo_good _ ms0 a0 ls ⟨qa, qc, ct⟩ _ o0 Hv.out HV.out.2.1 (by simp; omega)).mono ?_; rintro e wc ⟨u, ms, a, t, ok, o, rfl, ho, hg2, hb⟩; exact ⟨_, rfl, hK _ _ (RG.of_below (Nat.lt_of_lt_of_le hdB hR.size) hb) ⟨hM.up hb, fun _ h => h.up (Nat.lt_of_lt_of_le hdB hR.size) hb⟩ ⟨u, ms, a, t, ok, o, rfl, own_base ho hR.size, hg2⟩⟩
            · intro k' w' ρ hk' hR hM hD hF
              replace hk' : k' < 12 := hk'
              obtain ⟨f0, -⟩ := hF
              exact ⟨RG.refl _ _ _ _, ⟨hM.next, fun _ h => h⟩, f0, trivial⟩
            · intro k' w' ρ hk' hR hM hD hF
              replace hk' : k' < 12 := hk'
              obtain ⟨f0, -⟩ := hF
              refine goodL_ofsV fun K hK => ?_
              obtain ⟨u, ms, a, t, ok, o, f0, h1, h2⟩ := f0; replace f0 : ρ (.tmp 20) = .tuple #[.agg #[u, .int .i64 a], S t, .bool ok] := f0; have Q := Lib.hid (And.intro h1 h2); clear h1 h2; go_simp; exact hK _ _ (RG.refl _ _ _ _) ⟨hM.next, fun _ h => h⟩ ⟨u, ms, a, t, o, rfl, Q.out.1, Q.out.2⟩ (by intro x y z hx; replace hx := hx.symm.trans f0; simp at hx; obtain ⟨rfl, rfl, rfl⟩ := hx; rfl)
            · intro k' w' ρ hk' hR hM hD hF
              replace hk' : k' < 12 := hk'
              obtain ⟨f0, -⟩ := hF
              refine goodL_ofsV fun K hK => ?_
              obtain ⟨u, ms, a, t, ok, o, f0, h1, h2⟩ := f0; replace f0 : ρ (.tmp 20) = .tuple #[.agg #[u, .int .i64 a], S t, .bool ok] := f0; have Q := Lib.hid (And.intro h1 h2); clear h1 h2; go_simp; exact hK _ _ (RG.refl _ _ _ _) ⟨hM.next, fun _ h => h⟩ ⟨t, rfl⟩ (by intro x y z hx; replace hx := hx.symm.trans f0; simp at hx; obtain ⟨rfl, rfl, rfl⟩ := hx; rfl)
            · intro k' w' ρ hk' hR hM hD hF
              replace hk' : k' < 12 := hk'
              obtain ⟨f0, -⟩ := hF
              refine goodL_ofV (fun _ _ => trivial) fun K hK => ?_
              obtain ⟨u, ms, a, t, ok, o, f0, h1, h2⟩ := f0; replace f0 : ρ (.tmp 20) = .tuple #[.agg #[u, .int .i64 a], S t, .bool ok] := f0; have Q := Lib.hid (And.intro h1 h2); clear h1 h2; go_simp; exact hK _ _ (RG.refl _ _ _ _) ⟨hM.next, fun _ h => h⟩ trivial
            · intro k' w' ρ hk' hR hM hD hF
              replace hk' : k' < 12 := hk'
              obtain ⟨f0, f1, -⟩ := hF
              replace f0 : ρ (.tmp 7) = .pointer (some ⟨d, 0, none⟩) := f0
              refine goodL_ofsV fun K hK => ?_
              obtain ⟨u, ms, a, t, o, f1, h1, h2⟩ := f1; obtain ⟨A1, c1, rfl, -, -⟩ := (RdL.of_own (f := moC) (bs := ms) h1).form; replace f1 : ρ (.tmp 27) = .agg #[.slice A1 ms.length c1, .int .i64 a] := f1; have z := hD (by rfl); have BB := Lib.hid (gput_mk (g := g) (u := .slice A1 ms.length c1) (y := a) z); have e0 := z.1 0; have e1 := z.1 1; simp only [List.getElem?_toArray, List.getElem?_cons_zero, List.getElem?_cons_succ] at e0 e1; have qf := z.2; have HM := Lib.hid hM; clear h1 h2 z hM hD; go_simp; refine hK _ _ BB.out.2 ⟨?_, fun hn => absurd rfl hn⟩ trivial ?_; (obtain ⟨q, hq, hr⟩ := HM.out; exact ⟨q, by rw [Nat.mul_add]; omega, gput_rdr hr hgd _ _⟩); (intro u0 y hu hne; replace hu := hu.symm.trans f1; simp at hu; obtain ⟨rfl, rfl⟩ := hu; exact ⟨by simpa [World.setCell] using Nat.lt_of_lt_of_le hdB hR.size, BB.out.1⟩)
            · intro k' w' ρ hk' hR hM hD hF
              replace hk' : k' < 12 := hk'
              obtain ⟨f0, -⟩ := hF
              refine goodL_ofsV fun K hK => ?_
              obtain ⟨t, f0⟩ := f0; replace f0 : ρ (.tmp 28) = S t := f0; go_simp; exact hK _ _ (RG.refl _ _ _ _) ⟨hM.next, fun _ h => h⟩ ⟨t, rfl⟩ f0.symm
          · intro w' hR hM
            rintro _ rfl -
            rintro _ rfl -
            rintro _ rfl -
            rintro _ rfl -
            rintro _ ⟨_, _, _, rfl, -⟩ -
            rintro _ - -
            rintro _ ⟨u1, ms1, a1, t1, ok1, o1, rfl, ho1, hg1⟩ -
            rintro hv - hs1
            rintro sv - hs2
            rintro _ - -
            rintro _ - hs3
            rintro xv - hs4
          --END
          --END
            obtain ⟨w5, rfl⟩ : ∃ z, z = w' := ⟨_, rfl⟩
            have e1 : hv = .agg #[u1, .int .i64 a1] := hs1 _ _ _ rfl
            have e2 : sv = S t1 := hs2 _ _ _ rfl
            subst e1 e2
            obtain ⟨hd5, hi5⟩ := hs3 u1 a1 rfl (own_new ho1 (by have := hg1.n1; omega) HVB.out)
            have e4 : xv = S t1 := hs4
            subst e4
            have HL : Hid (HLoop g n zs p d w.heap.size (w.heap.size + 1) w (k - 1) t1 w5) := Lib.hid (by
              obtain ⟨q6, hq6, hr6⟩ := hM
              replace hq6 : q6 ≤ qq + 60 * 12 := hq6
              exact ⟨q6, ms1, a1, o1, u1, hg1, hi5, own_base ho1 (by omega), own_far ho1 hdB, HIR.out.of_block (hR.block w.heap.size hs4' (by omega) hrd), hd5, by omega, hr6, hR.of_drew.to_grown hgr4 hwd⟩)
            clear hR hM hs1 hs2 hs3 hs4 ho1 hg1 hi5 hd5 HIR HV HVB MM DD
            dsimp only [EndAllLV, Act.put]
            go_wp2_with fail
            go_roundw
            case rel => exact ⟨k - 1, t1, by omega, by rw [show ((k - 1 : Nat) : Int) = (k : Int) - 1 by omega], rfl, HL⟩
            case measure => simp [intOf]; omega
    · obtain rfl : k = 0 := by omega
      have hn30 := hg0.n30
      have hn1 := hg0.n1
      have HG0 := Lib.hid hg0
      have HI0 := Lib.hid hi0
      have HO0 := Lib.hid ho0
      have HIR := Lib.hid hir
      have hrs : w.heap.size < wr.heap.size := by omega
      clear hg0 hi0 ho0 hir
      go_wp2_with fail
      refine (odd_any _ _ _ _ _ _ hrw (by omega)).mono ?_
      rintro e w4 ⟨x4, rfl, ⟨q4, hq4, hr4⟩, hb⟩
      have hi4 := HI0.out.of_block (hb.block d hdz (by simp; omega))
      have ho4 := gup_own HO0.out hb (by omega)
      have hir4 := HIR.out.of_block (hb.block w.heap.size hrs (by simp; omega))
      have hdz4 := Nat.lt_of_lt_of_le hdz hb.size
      have hgr4 := gb_trans hgr hb
      have hs4' : w.heap.size < w4.heap.size := by have := hb.size; omega
      have hgn : (Value.slice VA ms0.length VC).ownBlock ≠ some g := own_far ho4 (by omega)
      have hrn : (Value.slice VA ms0.length VC).ownBlock ≠ some w.heap.size := own_far ho4 (by omega)
      have hlo : ∀ x, (Value.slice VA ms0.length VC).ownBlock = some x → w.heap.size ≤ x := fun x hx => by have := (ho4.lt x hx).1; omega
      have hnn : Value.slice VA ms0.length VC ≠ .slice none 0 0 := own_new ho4 (by omega) (fun k hk => by cases hk)
      clear hb hrw hgr hdz HI0 HO0 HIR hrs
      rcases x4 with _ | _
      · have dc := hi4.1
        have df := hi4.2
        have rc := hir4.1
        have rf := hir4.2
        have HO := Lib.hid ho4
        clear hi4 hir4 ho4
        go_wp2_with fail
        refine bodyPost_ret (v := .tuple #[.agg #[.slice VA ms0.length VC, .int .i64 a0], S ls]) (by simp [results, Try.results69, go_sem, rc]) rfl ⟨_, ms0, a0, ls, rfl, ?_, hn30, by omega, hlo, hnn, ⟨q4, by omega, ?_⟩, ?_⟩
        · exact rdM_good (own_setn (own_setn HO.out _ _ fun x hx e => hrn (by rw [hx]; exact congrArg some e)) _ _ fun x hx e => hrn (by rw [hx]; exact congrArg some e)) HG0.out
        · exact gput_rdr hr4 (by omega) _ _
        · exact gb_set (gb_set hgr4 _ _ (Nat.le_refl _)) _ _ (Nat.le_refl _)
      · go_wp2_with fail
        refine (pick_any _ _ _ _ _ _ hr4 (by omega)).mono ?_
        rintro e w5 ⟨x5, rfl, h1, h2, hr5, hb⟩
        have hx5 := h1 (by omega)
        have hi5 := hi4.of_block (hb.block d hdz4 (by simp; omega))
        have ho5 := gup_own ho4 hb (by omega)
        have hir5 := hir4.of_block (hb.block w.heap.size hs4' (by simp; omega))
        have hdz5 := Nat.lt_of_lt_of_le hdz4 hb.size
        have hgr5 := gb_trans hgr4 hb
        have hs5' : w.heap.size < w5.heap.size := by have := hb.size; omega
        clear hb h1 h2 hr4 hgr4 hdz4 hi4 ho4 hir4 hs4'
        by_cases e0 : x5 = 0
        · subst e0
          have dc := hi5.1
          have df := hi5.2
          have rc := hir5.1
          have rf := hir5.2
          have HO := Lib.hid ho5
          clear hi5 hir5 ho5
          go_wp2_with fail
          refine bodyPost_ret (v := .tuple #[.agg #[.slice VA ms0.length VC, .int .i64 a0], S (ls ++ [9])]) (by simp [results, Try.results69, go_sem, rc]) rfl ⟨_, ms0, a0, _, rfl, ?_, hn30, by simp; omega, hlo, hnn, ⟨q4 + 1, by omega, ?_⟩, ?_⟩
          · exact rdM_good (own_setn (own_setn HO.out _ _ fun x hx e => hrn (by rw [hx]; exact congrArg some e)) _ _ fun x hx e => hrn (by rw [hx]; exact congrArg some e)) HG0.out
          · exact gput_rdr hr5 (by omega) _ _
          · exact gb_set (gb_set hgr5 _ _ (Nat.le_refl _)) _ _ (Nat.le_refl _)
        by_cases e1 : x5 = 1
        · subst e1
          obtain ⟨W0, rfl⟩ : ∃ z, z = w5 := ⟨_, rfl⟩
          obtain ⟨qq, hqq⟩ : ∃ z, z = q4 + 1 := ⟨_, rfl⟩
          rw [← hqq] at hr5
          have hqb : qq ≤ p + 9002 := by omega
          have hdB : d < W0.heap.size := hdz5
          have MM : MR g n zs qq 2 0 W0.drew ∧ ∃ y : Int, Is W0.drew d #[.slice VA ms0.length VC, .int .i64 y] := ⟨MR.drew ⟨qq, by omega, hr5⟩, a0, hi5⟩
          have HO := Lib.hid ho5
          have HIR := Lib.hid hir5
          clear hi5 ho5 hir5 hr5
          go_upto_region 18 with (fail)
          --EVER{spec.l20History;18;l20h18}
          refine wp_region_ever (R := RS [g, d]) (M := fun k w => MR g n zs qq 2 k w ∧ ∃ y : Int, Is w d #[.slice VA ms0.length VC, .int .i64 y]) [tEq _ (.pointer (some ⟨d, 0, none⟩)), tEq _ (.slice VA ms0.length VC), tEq _ (.int .i64 ms0.length), tRow _ (isI (-1) (30)) 2, tEq _ (.pointer (some ⟨g, 0, none⟩)), tOf _ (isI (0) (1)), tPtr _ (isI (-1) (30)), tOf _ (isI (-1) (30)), tEq _ (.pointer (some ⟨d, 1, none⟩)), tyAny _] (by kernel_rfl) (RS.refl _) (fun _ _ _ => RS.trans) (by kernel_rfl) (MM) ?_ ?_
          · refine ⟨?_, ?_, ?_, ?_, ?_, ?_, ?_, ?_, ?_, ?_, trivial⟩
            · intro k' w' ρ hk' hR hM hF
              replace hk' : k' < 10 := hk'
              obtain ⟨f0, -⟩ := hF
              replace f0 : ρ (.tmp 7) = .pointer (some ⟨d, 0, none⟩) := f0
              refine good_of fun K hK => ?_
              go_simp
              exact hK _ _ (RS.refl _ _) (⟨hM.1.next, hM.2⟩) (rfl)
            · intro k' w' ρ hk' hR hM hF
              replace hk' : k' < 10 := hk'
              obtain ⟨f0, -⟩ := hF
              replace f0 : ρ (.tmp 68) = .pointer (some ⟨d, 0, none⟩) := f0
              refine good_of fun K hK => ?_
              obtain ⟨hM1, y, hI⟩ := hM; have z0 := hI.1 0; go_simp; exact hK _ _ (RS.refl _ _) ⟨hM1.next, y, hI⟩ rfl
            · intro k' w' ρ hk' hR hM hF
              replace hk' : k' < 10 := hk'
              obtain ⟨f0, -⟩ := hF
              replace f0 : ρ (.tmp 69) = .slice VA ms0.length VC := f0
              refine good_of fun K hK => ?_
              go_simp
              exact hK _ _ (RS.refl _ _) (⟨hM.1.next, hM.2⟩) (rfl)
            · intro k' w' ρ hk' hR hM hF
              replace hk' : k' < 10 := hk'
              obtain ⟨f0, f1, -⟩ := hF
              replace f0 : ρ (.const (.int .i64 (-1))) = .int .i64 (-1) := f0
              replace f1 : ρ (.tmp 70) = .int .i64 ms0.length := f1
              have bnew : w'.heap.size ∉ [g, d] := by have := hR.size; have h0 : W0.heap.size ≤ w'.heap.size := this; simp; omega
              refine good_of fun K hK => ?_
              go_simp
              refine hK _ _ (RS.alloc (RS.refl _ _) _) ((by obtain ⟨hM1, y, hI⟩ := hM; exact ⟨(hM1.alloc _).next, y, hI.up (Nat.lt_of_lt_of_le hdB hR.size) (up_alloc (Below.refl _ _) _)⟩)) ⟨w'.heap.size, rfl, bnew, by simp, fun j hj => row_new w' _ _ _ ?_ j hj⟩
              intro x hx; simp only [List.mem_cons, List.not_mem_nil, or_false] at hx
              rcases hx with rfl | rfl
              · exact ⟨_, rfl, by omega, by omega⟩
              · exact ⟨_, rfl, by omega, by omega⟩
            · intro k' w' ρ hk' hR hM hF
              replace hk' : k' < 10 := hk'
              obtain ⟨f0, -⟩ := hF
              replace f0 : ρ (.tmp 0) = .pointer (some ⟨g, 0, none⟩) := f0
              exact ⟨RS.refl _ _, ⟨hM.1.next, hM.2⟩, f0⟩
            · intro k' w' ρ hk' hR hM hF
              replace hk' : k' < 10 := hk'
              obtain ⟨f0, f1, f2, -⟩ := hF
              replace f0 : ρ (.func _) = .func (.func _) #[] #[] := f0
              replace f1 : ρ (.tmp 72) = .pointer (some ⟨g, 0, none⟩) := f1
              replace f2 : ρ (.const (.int .i64 2)) = .int .i64 2 := f2
              refine good_of fun K hK => ?_
              obtain ⟨⟨q, hq, hr⟩, y, hI⟩ := hM; have HR := Lib.hid hr; have HI := Lib.hid hI; clear hr hI; go_simp; refine (pick_any g n zs q 2 _ HR.out (by omega)).mono ?_; rintro e wc ⟨x, rfl, h1, _, hr', hb⟩; exact ⟨_, rfl, hK _ _ ((RS.refl _ _).grown hb (by intro g' h; injection h with h; subst h; exact .inl (by simp))) ⟨⟨q + 1, by omega, hr'⟩, y, HI.out.of_block (hb.block d (Nat.lt_of_lt_of_le hdB hR.size) (by simp; omega))⟩ ⟨x, rfl, by have := h1 (by omega); omega, by have := h1 (by omega); omega⟩⟩
            · intro k' w' ρ hk' hR hM hF
              replace hk' : k' < 10 := hk'
              obtain ⟨f0, f1, -⟩ := hF
              obtain ⟨b0, f0, bn0, bz0, bc0⟩ := f0
              replace f0 : ρ (.tmp 71) = .slice (some ⟨b0, 0, none⟩) 2 2 := f0
              obtain ⟨x1, f1, lo1, hi1⟩ := f1
              replace f1 : ρ (.tmp 73) = .int .i64 x1 := f1
              obtain ⟨u, hu, he⟩ := bc0 x1.toNat (by omega)
              clear bc0
              have ix0 : 0 ≤ x1 := by omega
              have ix1 : x1 < 2 := by omega
              refine good_of fun K hK => ?_
              go_simp
              exact hK _ _ (RS.refl _ _) (⟨hM.1.next, hM.2⟩) ⟨b0, _, rfl, bn0, bz0, u, hu, he⟩
            · intro k' w' ρ hk' hR hM hF
              replace hk' : k' < 10 := hk'
              obtain ⟨f0, -⟩ := hF
              obtain ⟨b0, o0, f0, bn0, bz0, u0, bc0, be0⟩ := f0
              replace f0 : ρ (.tmp 74) = .pointer (some ⟨b0, o0, none⟩) := f0
              refine good_of fun K hK => ?_
              go_simp
              exact hK _ _ (RS.refl _ _) (⟨hM.1.next, hM.2⟩) be0
            · intro k' w' ρ hk' hR hM hF
              replace hk' : k' < 10 := hk'
              obtain ⟨f0, -⟩ := hF
              replace f0 : ρ (.tmp 7) = .pointer (some ⟨d, 0, none⟩) := f0
              refine good_of fun K hK => ?_
              go_simp
              exact hK _ _ (RS.refl _ _) (⟨hM.1.next, hM.2⟩) (rfl)
            · intro k' w' ρ hk' hR hM hF
              replace hk' : k' < 10 := hk'
              obtain ⟨f0, f1, -⟩ := hF
              replace f0 : ρ (.tmp 76) = .pointer (some ⟨d, 1, none⟩) := f0
              refine good_of fun K hK => ?_
              obtain ⟨x1, f1, lo1, hi1⟩ := f1; replace f1 : ρ (.tmp 75) = .int .i64 x1 := f1; obtain ⟨⟨q, hq, hr⟩, y, hI⟩ := hM; have e0 := hI.1 1; have qf := hI.2; simp only [List.getElem?_toArray, List.getElem?_cons_zero, List.getElem?_cons_succ] at e0; have HI := Lib.hid (And.intro hr hI); clear hr hI; go_simp; exact hK _ _ ((RS.refl _ _).set _ _ (by simp)) ⟨⟨q, by omega, rdr_set HI.out.1 _ _ hgd⟩, x1, is_set1 HI.out.2⟩ trivial
          · intro w' hR hM
            rintro _ rfl
            rintro _ rfl
            rintro _ rfl
            rintro _ ⟨_, rfl, -, -, -⟩
            rintro _ rfl
            rintro _ ⟨v5, rfl, lo5, hi5⟩
            rintro _ ⟨_, _, rfl, -, -, -⟩
            rintro _ ⟨v7, rfl, lo7, hi7⟩
            rintro _ rfl
            rintro _ -
          --END
          --END
            dsimp only [EndAll, Act.put]
            obtain ⟨w6, rfl⟩ : ∃ z, z = w' := ⟨_, rfl⟩
            obtain ⟨⟨q6, hq6, hr6⟩, y6, hi6⟩ := hM
            replace hq6 : q6 ≤ qq + 2 * 10 := hq6
            have hB := hR.of_drew
            have hir6 := HIR.out.of_block (hB.block w.heap.size hs5' (by simp; omega))
            have hgn2 : (Value.slice VA ms0.length VC).ownBlock = none ∨ True := .inr trivial
            have ho6 : OwnM w6 (w.heap.size + 1) (.slice VA ms0.length VC) ms0 := rs_own hB HO.out (fun x hx => by
              simp
              exact ⟨fun e => hgn (by rw [hx, e]), fun e => hn0 (by rw [hx, e])⟩)
            have hgr6 : w.grownBy w6 (some g) := ⟨hB.os.trans hgr5.os, hB.tape.trans hgr5.tape, hB.output.trans hgr5.output, Nat.le_trans hgr5.size hB.size, fun i hi h1 => (hB.block i (Nat.lt_of_lt_of_le hi hgr5.size) (by simp at h1 ⊢; omega)).trans (hgr5.block i hi h1)⟩
            have dc := hi6.1
            have df := hi6.2
            have rc := hir6.1
            have rf := hir6.2
            have HO6 := Lib.hid ho6
            have HR6 := Lib.hid hr6
            have HGR6 := Lib.hid hgr6
            clear hi6 hir6 ho6 hr6 hgr6 hR hB HO HIR MM hgr5
            go_wp2_with fail
            refine bodyPost_ret (v := .tuple #[.agg #[.slice VA ms0.length VC, .int .i64 y6], S ls]) (by simp [results, Try.results69, go_sem, rc]) rfl ⟨_, ms0, y6, ls, rfl, ?_, hn30, by omega, hlo, hnn, ⟨q6, by omega, ?_⟩, ?_⟩
            · exact rdM_good (own_setn (own_setn HO6.out _ _ fun x hx e => hrn (by rw [hx]; exact congrArg some e)) _ _ fun x hx e => hrn (by rw [hx]; exact congrArg some e)) HG0.out
            · exact gput_rdr HR6.out hg _ _
            · exact gb_set (gb_set HGR6.out _ _ (Nat.le_refl _)) _ _ (Nat.le_refl _)
        by_cases e2 : x5 = 2
        · subst e2
          rcases ho5.2 with ⟨_, h0⟩ | ⟨b, cap, cur, hv, hbg, hh, hnc, hcm, hcs, htake⟩
          · omega
          injection hv with hv1 _ hv2
          subst hv1 hv2
          have dc := hi5.1
          have df := hi5.2
          obtain ⟨j, hj⟩ : ∃ j, ms0.length = j + 1 := ⟨ms0.length - 1, by omega⟩
          obtain ⟨ns, hnl, hns, hnp⟩ := set_par hj (ms0.length : Int) (puts_good HG0.out)
          obtain ⟨u0, c0⟩ := own_cellX ho5 (show j * 7 < ms0.length * 7 by omega)
          have f0 := ho5.frozenAt (j * 7)
          have HS := Lib.hid (show OwnM (w5.setCell ⟨b, j * 7, none⟩ (.int .i64 ms0.length)) (w.heap.size + 1) (.slice (some ⟨b, 0, none⟩) ms0.length VC) ns from by
            have := (ho5.stored (j * 7) (.int .i64 ms0.length)).1
            rw [hns] at this
            rw [OwnM, hnl]
            exact this)
          have HN := Lib.hid (And.intro hnl hnp)
          have hnl30 : ns.length ≤ 30 := by omega
          have hbd : ¬ d = b := fun e => hn0 (by rw [e]; rfl)
          have hbd2 : ¬ b = d := fun e => hbd e.symm
          have hbr : ¬ b = w.heap.size := by omega
          have hbr2 : ¬ w.heap.size = b := by omega
          have hbw : w.heap.size < b := by omega
          have hbg2 : ¬ b = g := by omega
          have iw : IntKind.i64.wrap ((ms0.length : Int) - 1) = (j : Int) := by rw [IntWalk.i64_in _ (by omega)]; omega
          have ij : (j : Int) < (ms0.length : Int) := by omega
          have hj2 : j < ms0.length := by omega
          have rc := hir5.1
          have rf := hir5.2
          have HR := Lib.hid hr5
          have HGR := Lib.hid hgr5
          clear hi5 ho5 hir5 hh htake hcs hnl hns hnp hj hr5 hgr5
          go_wp2_with fail
          refine bodyPost_ret (v := .tuple #[.agg #[.slice (some ⟨b, 0, none⟩) ms0.length VC, .int .i64 a0], S ls]) (by simp [results, Try.results69, go_sem, rc]) rfl ⟨_, ns, a0, ls, rfl, ?_, hnl30, by omega, hlo, hnn, ⟨q4 + 1, by omega, ?_⟩, ?_⟩
          · exact rdM_puts (own_setn (own_setn HS.out _ _ fun x hx e => hrn (by rw [hx]; exact congrArg some e)) _ _ fun x hx e => hrn (by rw [hx]; exact congrArg some e)) HN.out.2 (by decide)
          · exact rdr_set (rdr_set (rdr_set HR.out ⟨b, j * 7, none⟩ _ (by show g < b; omega)) _ _ hg) _ _ hg
          · exact gb_set (gb_set (gb_set HGR.out ⟨b, j * 7, none⟩ _ (by show w.heap.size ≤ b; omega)) _ _ (Nat.le_refl _)) _ _ (Nat.le_refl _)
        by_cases e3 : x5 = 3
        · subst e3
          rcases ho5.2 with ⟨_, h0⟩ | ⟨b, cap, cur, hv, hbg, hh, hnc, hcm, hcs, htake⟩
          · omega
          injection hv with hv1 _ hv2
          subst hv1 hv2
          have dc := hi5.1
          have df := hi5.2
          obtain ⟨pb, hpb⟩ : ∃ pb, pb = (ms0.getD (ms0.length - 1) m0).b.p := ⟨_, rfl⟩
          have hpl : pb.length ≤ 120 := by rw [hpb]; exact (HG0.out.put (by omega)).2
          obtain ⟨b', o', hA, _, _, _, _, _, _, _, c6⟩ := (rdM_good ho5 HG0.out).cells (k := ms0.length - 1) (by omega) rfl
          injection hA with hA
          injection hA with hA1 hA2 _
          subst hA1 hA2
          rw [← hpb] at c6
          obtain ⟨j, hj⟩ : ∃ j, ms0.length = j + 1 := ⟨ms0.length - 1, by omega⟩
          obtain ⟨ns, hnl, hns, hnp⟩ := set_put (K := 121) hj (pb ++ [122]) (by simp; omega) (fun y hy => by have := puts_good HG0.out y hy; omega)
          rw [show 0 + (ms0.length - 1) * 7 + 6 = j * 7 + 6 by omega] at c6
          have f0 := ho5.frozenAt (j * 7 + 6)
          have HS := Lib.hid (show OwnM (w5.setCell ⟨b, j * 7 + 6, none⟩ (S (pb ++ [122]))) (w.heap.size + 1) (.slice (some ⟨b, 0, none⟩) ms0.length VC) ns from by
            have := (ho5.stored (j * 7 + 6) (S (pb ++ [122]))).1
            rw [hns] at this
            rw [OwnM, hnl]
            exact this)
          have HN := Lib.hid (And.intro hnl hnp)
          have hnl30 : ns.length ≤ 30 := by omega
          have hbd : ¬ d = b := fun e => hn0 (by rw [e]; rfl)
          have hbd2 : ¬ b = d := fun e => hbd e.symm
          have hbr : ¬ b = w.heap.size := by omega
          have hbr2 : ¬ w.heap.size = b := by omega
          have hbw : w.heap.size < b := by omega
          have hbg2 : ¬ b = g := by omega
          have iw : IntKind.i64.wrap ((ms0.length : Int) - 1) = (j : Int) := by rw [IntWalk.i64_in _ (by omega)]; omega
          have ij : (j : Int) < (ms0.length : Int) := by omega
          have hj2 : j < ms0.length := by omega
          have rc := hir5.1
          have rf := hir5.2
          have HR := Lib.hid hr5
          have HGR := Lib.hid hgr5
          clear hi5 ho5 hir5 hh htake hcs hnl hns hnp hj hr5 hgr5
          clear hpb
          go_upto_region 22 with (fail)
          go_region
          all_goals
            go_wp2_with fail
            refine bodyPost_ret (v := .tuple #[.agg #[.slice (some ⟨b, 0, none⟩) ms0.length VC, .int .i64 a0], S ls]) (by simp [results, Try.results69, go_sem, rc]) rfl ⟨_, ns, a0, ls, rfl, ?_, hnl30, by omega, hlo, hnn, ⟨q4 + 1, by omega, ?_⟩, ?_⟩
            · exact rdM_puts (own_setn (own_setn HS.out _ _ fun x hx e => hrn (by rw [hx]; exact congrArg some e)) _ _ fun x hx e => hrn (by rw [hx]; exact congrArg some e)) HN.out.2 (by decide)
            · exact rdr_set (rdr_set (rdr_set HR.out ⟨b, j * 7 + 6, none⟩ _ (by show g < b; omega)) _ _ hg) _ _ hg
            · have hGG := HGR.out
              (repeat (first | exact World.grownBy.refl _ _ | assumption | refine gb_drew ?_ | refine gb_drewN ?_ _ | refine gb_alloc ?_ _ | refine gb_here ?_ rfl _ | refine gb_set ?_ _ _ (by first | exact Nat.le_refl _ | (simp; done) | (simp; omega) | omega) | refine gb_trans ?_ (by assumption) | refine gb_below ?_ (by assumption)))
        · obtain rfl : x5 = 4 := by omega
          rcases ho5.2 with ⟨_, h0⟩ | ⟨b, cap, cur, hv, hbg, hh, hnc, hcm, hcs, htake⟩
          · omega
          injection hv with hv1 _ hv2
          subst hv1 hv2
          have dc := hi5.1
          have df := hi5.2
          have rc := hir5.1
          have rf := hir5.2
          have HO := Lib.hid ho5
          have hbr : w.heap.size < b := by omega
          clear hi5 ho5 hir5 hh htake hcs e0 e1 e2 e3
          have HR := Lib.hid hr5
          have HGR := Lib.hid hgr5
          clear hr5 hgr5
          rcases (show VC = 1 ∨ 1 < VC by omega) with hc1 | hc1
          · have hl0 : ms0.length - 1 = 0 := by omega
            go_wp2_with fail
            refine bodyPost_ret (v := .tuple #[.agg #[.slice (some ⟨b, 0, none⟩) 0 0, .int .i64 a0], S ls]) (by simp [results, Try.results69, go_sem, rc]) rfl ⟨_, [], a0, ls, rfl, ?_, by simp, by omega, ?_, (by simp), ⟨q4 + 1, by omega, ?_⟩, ?_⟩
            · exact rdM_none _ _
            · intro x e; injection e with e; simp only at e; omega
            · exact rdr_set (rdr_set (rdr_set HR.out ⟨d, 0, none⟩ _ hgd) _ _ hg) _ _ hg
            · exact gb_set (gb_set (gb_set HGR.out ⟨d, 0, none⟩ _ hwd) _ _ (Nat.le_refl _)) _ _ (Nat.le_refl _)
          · go_wp2_with fail
            refine bodyPost_ret (v := .tuple #[.agg #[.slice (some ⟨b, 7, none⟩) (ms0.length - 1) (VC - 1), .int .i64 a0], S ls]) (by simp [results, Try.results69, go_sem, rc]) rfl ⟨_, ms0.tail, a0, ls, rfl, ?_, by rw [List.length_tail]; omega, by omega, ?_, (by simp), ⟨q4 + 1, by omega, ?_⟩, ?_⟩
            · exact rdM_tail (K := 120) (RdL.of_own (own_setn (own_setn (own_setn HO.out ⟨d, 0, none⟩ _ fun x hx e => hn0 (by rw [hx]; exact congrArg some e)) _ _ fun x hx e => hrn (by rw [hx]; exact congrArg some e)) _ _ fun x hx e => hrn (by rw [hx]; exact congrArg some e))) rfl hc1 (puts_good HG0.out) (by decide)
            · intro x e; injection e with e; simp only at e; omega
            · exact rdr_set (rdr_set (rdr_set HR.out ⟨d, 0, none⟩ _ hgd) _ _ hg) _ _ hg
            · exact gb_set (gb_set (gb_set HGR.out ⟨d, 0, none⟩ _ hwd) _ _ (Nat.le_refl _)) _ _ (Nat.le_refl _)

end Go.Proofs.Ytjcdklkdpcncgaa
