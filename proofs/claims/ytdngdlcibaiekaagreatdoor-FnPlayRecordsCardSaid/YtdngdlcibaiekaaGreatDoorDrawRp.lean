/- What is proved here: the contract of DrawPlayRecords. No condition but that the code is a slice of bytes. -/
import Derived.Test.YtdngdlcibaiekaaGreatDoorDrawRr
import Derived.Test.YtdngdlcibaiekaaGreatDoorRcA
import Derived.Test.YtdngdlcibaiekaaGreatDoorStrC
import Derived.Deep.Cut
namespace Go.Proofs.YtdngdlcibaiekaaGreatDoor
open Go.RowKit
set_option linter.unusedVariables false

theorem apTo_len {s : List UInt8} {a c : Int} {p : List UInt8} (h : s.length ≤ 130) : (apTo s a c p).length ≤ 130 := by
  unfold apTo
  split
  · rename_i hk
    have := tv_len (okF_tv (s := s) (x := ⟨a, c, p⟩) hk).2
    show (apF s ⟨a, c, p⟩).length ≤ 130
    omega
  · split
    · exact h
    · simp
theorem rdC_len2 (s : List UInt8) : (rdC s).p.length ≤ 120 := by
  unfold rdC
  cases h : rdM s with
  | none => simp [c0]
  | some x =>
    obtain ⟨a, b, p, rfl, hr⟩ := rdM_rec h
    exact tv_len hr.2.2.1
theorem rep_str (n : Nat) : (List.replicate n ([] : List UInt8)).flatMap strC = List.replicate n (S []) := by
  induction n with
  | zero => rfl
  | succ n ih => rw [List.replicate_succ, List.flatMap_cons, ih, List.replicate_succ]; rfl
theorem made_str (n : Nat) : (madeCells (S []).cells (n * 1)).toList = (List.replicate n ([] : List UInt8)).flatMap strC := by
  rw [rep_str]
  unfold madeCells
  rw [Array.toList_map, Array.toList_range, Nat.mul_one]
  apply List.ext_getElem (by simp)
  intro k h1 h2
  simp [Value.cells, Nat.mod_one]
def DprPost (w : World) (e : Ending) (w' : World) : Prop := ∃ (s : List UInt8) (v : Value) (rs : List (List UInt8)), e = .returned (.tuple #[S s, v]) ∧ s.length ≤ 130 ∧ rs.length ≤ 31 ∧ (∀ r ∈ rs, r.length ≤ 505) ∧ RdL w' 1 strC v rs ∧ Below w.heap.size w w'
set_option maxRecDepth 100000 in
set_option maxHeartbeats 2000000 in
theorem drawPlayRecords_any (v : Value) (n : Nat) (zs : List Int) (w : World) (h : Bytes w w.heap.size v n zs) :
    Calls Tryz.prog 23 #[v] w (DprPost w) := by
  obtain ⟨i0, hi, hz0, hz1, hz2⟩ := info_parts str_info
  go_enter Tryz.func23, Tryz.ntmps23
  go_wp2_with fail
  refine (open_any v n zs _ (h.to (by (repeat (first | exact Below.refl _ _ | assumption | refine Below.drew ?_ | refine up_drewN ?_ _ | refine up_alloc ?_ _ | refine up_set ?_ _ _ (by first | exact Nat.le_refl _ | (simp; done) | (simp; omega) | omega) | refine up_trans ?_ (by assumption)))))).mono ?_
  rintro e w1 ⟨g, m, ys, rfl, hr, hb, hg⟩
  have hW1 : Below w.heap.size w w1 := by (repeat (first | exact Below.refl _ _ | assumption | refine Below.drew ?_ | refine up_drewN ?_ _ | refine up_alloc ?_ _ | refine up_set ?_ _ _ (by first | exact Nat.le_refl _ | (simp; done) | (simp; omega) | omega) | refine up_trans ?_ (by assumption)))
  have hgz := hr.lt
  clear hb h
  go_wp2_with fail
  refine (l20Text_any _ _ _ _ _ _ hr (by omega)).mono ?_
  rintro e w2 ⟨s, rfl, hs, ⟨q2, hq2, hr2⟩, hb⟩
  have hs2 := hb.size
  have hW2 : Below w.heap.size w w2 := up_grown hW1 hb (fun k hk => by injection hk with hk; omega)
  have hgz2 : g < w2.heap.size := by omega
  clear hb hr
  have HO3 := Lib.hid (own_emptyS w2 w2.heap.size (Nat.le_refl _))
  go_wp2_with fail
  refine (pick_any _ _ _ _ _ _ (hr2.up (by (repeat (first | exact Below.refl _ _ | assumption | refine Below.drew ?_ | refine up_drewN ?_ _ | refine up_alloc ?_ _ | refine up_set ?_ _ _ (by first | exact Nat.le_refl _ | (simp; done) | (simp; omega) | omega) | refine up_trans ?_ (by assumption))))) (by omega)).mono ?_
  rintro e w3 ⟨x3, rfl, h1, h2, hr3, hb⟩
  have hx3 := h1 (by omega)
  have HO4 := Lib.hid (gup_own HO3.out hb hgz2)
  have hW3 : w2.grownBy w3 (some g) := by (repeat (first | exact World.grownBy.refl _ _ | assumption | refine gb_drew ?_ | refine gb_drewN ?_ _ | refine gb_alloc ?_ _ | refine gb_here ?_ rfl _ | refine gb_set ?_ _ _ (by first | exact Nat.le_refl _ | (simp; done) | (simp; omega) | omega) | refine gb_trans ?_ (by assumption) | refine gb_below ?_ (by assumption)))
  have hs3 := hW3.size
  obtain ⟨k0, rfl⟩ : ∃ k0 : Nat, x3 = k0 := ⟨x3.toNat, by omega⟩
  clear hb hr2 h1 h2 HO3
  go_wp2_with fail
  go_loopw [6, 7, 8] (fun v t i wr => ∃ (v0 : Value) (k q0 : Nat) (x : List UInt8) (rs : List (List UInt8)), v0 = v ∧ k ≤ 5 ∧ i = .int .i64 k ∧ t = S x ∧ x.length ≤ 130 ∧ rs.length + k ≤ 5 ∧ (∀ r ∈ rs, r.length ≤ 505) ∧ q0 + 2000 * k ≤ q2 + 10001 ∧ Rdr wr g m ys q0 ∧ w2.grownBy wr (some g) ∧ Hid (Own wr w2.heap.size 9 1 v rs.length (rs.flatMap strC))) (fun _ _ i _ => (intOf i).toNat)
  case atStart => exact ⟨_, k0, q2 + 1, s, [], rfl, by omega, rfl, rfl, hs, by simp; omega, by simp, by omega, hr3, hW3, HO4⟩
  case round =>
    obtain ⟨v, k, q0, x, rs, rfl, hk, rfl, rfl, hx, hN, hrs, hq0, hrw, hWr, HOw⟩ := hrel
    clear hr3 hW3 HO4
    have hsz := hWr.size
    by_cases h0 : 0 < k
    · have i1 : (0 : Int) < (k : Int) := by omega
      have HRS := Lib.hid hrs
      clear hrs
      go_wp2_with fail
      refine (l20Record_any _ _ _ _ _ x _ hrw (by omega) hx).mono ?_
      rintro e w4 ⟨rt, rfl, hrt, ⟨q4, hq4, hr4⟩, hb⟩
      have HO5 := Lib.hid (gup_own HOw.out hb hgz2)
      have hW4 := gb_trans hWr hb
      have hs4 := hW4.size
      clear hb hrw hWr HOw
      go_upto_region 10 with (at_builtin; go_loud (
         refine wpList_append_own _ rfl _ _ 34 rfl w2.heap.size 9 i0 (S []) 1 16 Tryz.underlying34 hi hz0 hz1 hz2 rfl (by decide) _ _ _ rfl (HO5.out.alloc _) ⟨w4.heap.size, 0, none⟩ 1 1 [S rt] rfl rfl (cells_new _ _ _) (by intro u hu; simp at hu; subst hu; rfl) (by unfold maxLen; omega) (by omega) (by simp; omega) ?_
         intro v5 w5 how hgr _
         have HO6 := Lib.hid (show Own w5 w2.heap.size 9 1 v5 (rs ++ [rt]).length ((rs ++ [rt]).flatMap strC) by simpa [strC] using how)
         have hlow := fun (i : Nat) hi => own_lt HO5.out (Nat.le_refl _) i hi
         have hW5 := gb_own (gb_alloc hW4 _) hgr hlow
         have hr5 : Rdr w5 g m ys q4 := hr4.below ((up_alloc (Below.refl _ _) _ |>.mono (by omega)).grown hgr (by simp; omega) (fun i hi => by have := hlow i hi; omega))
         clear how hgr hlow hW4 hr4 HO5))
      have hs5 := hW5.size
      have hrl : ∀ r ∈ rs ++ [rt], r.length ≤ 505 := fun r hr => by
        rw [List.mem_append, List.mem_singleton] at hr
        rcases hr with hr | rfl
        · exact HRS.out r hr
        · exact hrt
      have HRL := Lib.hid hrl
      have RR := Lib.hid (fun w => specReadRecord_any rt w (by omega))
      have hcl := rdC_len2 rt
      generalize rdC rt = xc at *
      generalize rdB rt = rb at *
      obtain ⟨xa, xcc, xp⟩ := xc
      simp only at hcl
      have AP := Lib.hid (fun w => specApplyChange_any x xa xcc xp w (by unfold maxLen; omega) (by omega))
      have hax := apTo_len (a := xa) (c := xcc) (p := xp) hx
      unfold AcPost chV at AP
      unfold chAgg at RR
      simp only at RR
      generalize chOk x xa xcc xp = ck at *
      generalize apTo x xa xcc xp = x2 at *
      clear hrl HRS
      go_wp2_with fail
      refine (RR.out _).mono ?_
      rintro e w6 ⟨rfl, hb⟩
      have hW6 := gb_below hW5 hb
      have hr6 := hr5.up hb
      have HO7 := Lib.hid (own_up HO6.out hb)
      have hs6 := hb.size
      clear hb RR hW5 hr5 HO6
      rcases rb with _ | _
      · go_wp2_with fail
        go_roundw
        case rel => exact ⟨_, k - 1, q4, x, rs ++ [rt], rfl, by omega, congrArg (Value.int .i64) (by omega), rfl, hx, by simp; omega, HRL.out, by omega, hr6.up (by (repeat (first | exact Below.refl _ _ | assumption | refine Below.drew ?_ | refine up_drewN ?_ _ | refine up_alloc ?_ _ | refine up_set ?_ _ _ (by first | exact Nat.le_refl _ | (simp; done) | (simp; omega) | omega) | refine up_trans ?_ (by assumption)))), gb_alloc hW6 _, Lib.hid (HO7.out.alloc _)⟩
        case measure => simp [intOf]; omega
      · go_wp2_with fail
        refine (AP.out _).mono ?_
        rintro e w7 ⟨rfl, hb⟩
        have hW7 := gb_below (gb_alloc hW6 _) hb
        have hr7 := (hr6.up (up_alloc (Below.refl _ _) _)).up hb
        have HO8 := Lib.hid (own_up (HO7.out.alloc _) hb)
        clear hb AP hW6 hr6 HO7
        go_wp2_with fail
        go_roundw
        case rel => exact ⟨_, k - 1, q4, x2, rs ++ [rt], rfl, by omega, congrArg (Value.int .i64) (by omega), rfl, hax, by simp; omega, HRL.out, by omega, hr7, hW7, HO8⟩
        case measure => simp [intOf]; omega
    · obtain rfl : k = 0 := by omega
      have HRS := Lib.hid hrs
      clear hrs
      go_wp2_with fail
      refine (odd_any _ _ _ _ _ _ hrw (by omega)).mono ?_
      rintro e w4 ⟨x4, rfl, ⟨q4, hq4, hr4⟩, hb⟩
      have HO5 := Lib.hid (gup_own HOw.out hb hgz2)
      have hW4 := gb_trans hWr hb
      have hs4 := hW4.size
      have hWB := Lib.hid (show Below w.heap.size w w4 from up_grown hW2 hW4 (fun k hk => by injection hk with hk; omega))
      clear hb hrw hWr HOw hr4 hW4
      rcases x4 with _ | _
      · go_wp2_with fail
        go_ret2
        exact ⟨s, _, rs, rfl, hs, by omega, HRS.out, RdL.of_own HO5.out, hWB.out⟩
      · go_wp2_with (at_make; refine wpList_make_full _ rfl _ _ 34 rfl w4.heap.size 9 i0 _ 1 Tryz.underlying34 hi hz0 hz1 _ _ _ _ 31 rfl rfl rfl rfl (by rw [hz2]; omega) (by unfold maxLen; omega) (Nat.le_refl _) ?_; intro w5 how hgr)
        have hWB5 := up_grown hWB.out hgr (fun k hk => by cases hk)
        go_ret2
        refine ⟨s, _, List.replicate 31 [], rfl, hs, by simp, fun r hr => by rw [(List.mem_replicate.1 hr).2]; simp, ?_, hWB5⟩
        have hR : RdL w5 1 strC (.slice (some ⟨w4.heap.size, 0, none⟩) 31 31) (List.replicate 31 []) := RdL.of_own (f := strC) (bs := List.replicate 31 []) (by
          have e : (madeCells (S []).cells (31 * 1)).toList = (List.replicate 31 ([] : List UInt8)).flatMap strC := made_str 31
          have h7 := how
          change Own w5 w4.heap.size 9 1 _ _ (madeCells (S []).cells (31 * 1)).toList at h7
          rw [e] at h7
          simpa using h7)
        exact hR

end Go.Proofs.YtdngdlcibaiekaaGreatDoor
