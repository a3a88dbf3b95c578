/- What is proved here: contracts of PlayRecords in the program and in the reference. Condition: what the library's variables hold. -/
import Derived.Test.YtbjlkdenkmbepaaGreatDoorRcD
namespace Go.Proofs.YtbjlkdenkmbepaaGreatDoor
open Go.RowKit
set_option linter.unusedVariables false

/-- the text and the number that PlayRecords returns. -/
noncomputable def plS (s : List UInt8) (rs : List (List UInt8)) : List UInt8 := if tv s = true ∧ rs.length ≤ 30 then (pl s rs).1 else []
noncomputable def plN (s : List UInt8) (rs : List (List UInt8)) : Int := if tv s = true ∧ rs.length ≤ 30 then ((pl s rs).2 : Nat) else -1
theorem rdC_len (s : List UInt8) : (rdC s).p.length ≤ 120 := by
  unfold rdC
  cases h : rdM s with
  | none => simp [c0]
  | some x =>
    obtain ⟨a, b, p, rfl, hr⟩ := rdM_rec h
    exact tv_len hr.2.2.1
theorem pl_step {s t : List UInt8} {rs : List (List UInt8)} {k : Nat} (hk : k < rs.length) (h1 : pl s rs = ((pl t (rs.drop k)).1, k + (pl t (rs.drop k)).2)) :
    (rdB rs[k] = false → pl s rs = (t, k)) ∧ (rdB rs[k] = true → chOk t (rdC rs[k]).a (rdC rs[k]).c (rdC rs[k]).p = false → pl s rs = (t, k)) ∧
    (rdB rs[k] = true → chOk t (rdC rs[k]).a (rdC rs[k]).c (rdC rs[k]).p = true → pl s rs = ((pl (apTo t (rdC rs[k]).a (rdC rs[k]).c (rdC rs[k]).p) (rs.drop (k + 1))).1, (k + 1) + (pl (apTo t (rdC rs[k]).a (rdC rs[k]).c (rdC rs[k]).p) (rs.drop (k + 1))).2) ∧ tv (apTo t (rdC rs[k]).a (rdC rs[k]).c (rdC rs[k]).p) = true) := by
  rw [List.drop_eq_getElem_cons hk] at h1
  cases hm : rdM rs[k] with
  | none =>
    obtain ⟨_, hb⟩ := rd_no hm
    rw [pl_none _ hm] at h1
    refine ⟨fun _ => by rw [h1]; simp, fun e => ?_, fun e => ?_⟩ <;> (rw [hb] at e; cases e)
  | some x =>
    obtain ⟨hc, hb⟩ := rd_yes hm
    rw [hc]
    refine ⟨(fun e => by rw [hb] at e; cases e), fun _ e => ?_, fun _ e => ?_⟩
    · rw [pl_bad _ hm e] at h1
      rw [h1]; simp
    · rw [pl_ok _ hm e] at h1
      have ha : apTo t x.a x.c x.p = apF t x := by unfold apTo; rw [if_pos e]; rfl
      rw [ha]
      refine ⟨by rw [h1]; simp only [Prod.mk.injEq, true_and]; omega, (okF_tv e).2⟩
theorem pl_last {s t : List UInt8} {rs : List (List UInt8)} (h1 : pl s rs = ((pl t (rs.drop rs.length)).1, rs.length + (pl t (rs.drop rs.length)).2)) : pl s rs = (t, rs.length) := by
  rw [List.drop_length] at h1
  rw [h1]
  simp [pl]

set_option maxRecDepth 100000 in
set_option maxHeartbeats 1000000 in
theorem implPlay_any (s : List UInt8) (v : Value) (rs : List (List UInt8)) (w : World) (hs : s.length ≤ 1048577) (hv : RdL w 1 strC v rs) (hr : ∀ r ∈ rs, r.length ≤ 1048576) (hL : LW w) :
    Calls Tryz.prog 77 #[S s, v] w fun e w' => e = .returned (.tuple #[S (plS s rs), .int .i64 (plN s rs)]) ∧ Below w.heap.size w w' := by
  obtain ⟨A, c, rfl, _, _⟩ := hv.form
  obtain ⟨zs, hzs⟩ : ∃ z, z = plS s rs := ⟨_, rfl⟩
  obtain ⟨zn, hzn⟩ : ∃ z, z = plN s rs := ⟨_, rfl⟩
  have HZ := Lib.hid (And.intro hzs hzn)
  rw [← hzs, ← hzn]
  clear hzs hzn
  have hml : s.length ≤ maxLen := by unfold maxLen; omega
  have HV := Lib.hid hv
  have HW := Lib.hid hL
  have HR := Lib.hid hr
  clear hv hL hr
  rcases ht : tv s with _ | _
  · have H1 := Lib.hid (show zs = [] ∧ zn = -1 by rw [HZ.out.1, HZ.out.2]; unfold plS plN; rw [ht]; simp)
    go_enter Tryz.func77, Tryz.ntmps77
    go_wp2_with (go_at_call 53; refine (implTextValid_any s _ hml).mono ?_; rintro e w1 ⟨rfl, rfl⟩)
    go_ret2
    rw [H1.out.1, H1.out.2]
    exact ⟨rfl, by (repeat (first | exact Below.refl _ _ | assumption | refine Below.drew ?_ | refine up_drewN ?_ _ | refine up_alloc ?_ _ | refine up_set ?_ _ _ (by first | exact Nat.le_refl _ | (simp; done) | (simp; omega) | omega) | refine up_trans ?_ (by assumption)))⟩
  by_cases h30 : rs.length ≤ 30
  · have i30 : ¬ (30 : Int) < (rs.length : Int) := by omega
    have HP := Lib.hid (show zs = (pl s rs).1 ∧ zn = ((pl s rs).2 : Nat) by rw [HZ.out.1, HZ.out.2]; unfold plS plN; rw [if_pos ⟨ht, h30⟩, if_pos ⟨ht, h30⟩]; exact ⟨rfl, rfl⟩)
    have HT := Lib.hid ht
    go_enter Tryz.func77, Tryz.ntmps77
    go_wp2_with (go_at_call 53; refine (implTextValid_any s _ hml).mono ?_; rintro e w1 ⟨rfl, rfl⟩)
    clear ht
    go_loopw [0, 21] (fun u i wr => ∃ (k : Nat) (t : List UInt8), k ≤ rs.length ∧ i = .int .i64 k ∧ u = S t ∧ Hid (tv t = true) ∧ Hid (pl s rs = ((pl t (rs.drop k)).1, k + (pl t (rs.drop k)).2)) ∧ Below w.heap.size w wr) (fun _ i _ => rs.length - (intOf i).toNat)
    case atStart => exact ⟨0, s, Nat.zero_le _, rfl, rfl, HT, Lib.hid (by simp), Below.refl _ _⟩
    case round =>
      obtain ⟨k, t, hk, rfl, rfl, HT2, HQ, hW⟩ := hrel
      by_cases hlt : k < rs.length
      · have j1 : (0 : Int) ≤ (k : Int) := by omega
        have j2 : (k : Int) < (rs.length : Int) := by omega
        obtain ⟨b, o, rfl, hb, hc⟩ := (RdL.up HV.out hW).cells strC_len hlt
        have c0 := hc 0 _ rfl
        simp only [Nat.mul_one, Nat.add_zero] at c0
        have hrl := HR.out _ (List.getElem_mem hlt)
        have htl := tv_len HT2.out
        have hxl := rdC_len rs[k]
        have PS := Lib.hid (pl_step hlt HQ.out)
        have RR := Lib.hid (fun w hw => implReadRecord_any rs[k] w hrl hw)
        generalize rs[k] = r at *
        generalize rdC r = x at *
        generalize rdB r = rb at *
        obtain ⟨xa, xc, xp⟩ := x
        simp only at PS hxl
        have AP := Lib.hid (fun w => implApplyChange_any t xa xc xp w (by unfold maxLen; omega) (by omega))
        unfold AcPost chV at AP
        unfold chAgg at RR
        simp only at RR
        generalize chOk t xa xc xp = ck at *
        generalize apTo t xa xc xp = t2 at *
        clear hc
        go_wp2_with fail
        refine (RR.out _ (HW.out.up hW)).mono ?_
        rintro e w1 ⟨rfl, hb1⟩
        replace hW := up_trans hW hb1
        clear hb1 RR c0
        rcases rb with _ | _
        · have HF := Lib.hid (PS.out.1 (by trivial))
          go_wp2_with fail
          go_ret2
          rw [HP.out.1, HP.out.2, HF.out]
          exact ⟨rfl, by (repeat (first | exact Below.refl _ _ | assumption | refine Below.drew ?_ | refine up_drewN ?_ _ | refine up_alloc ?_ _ | refine up_set ?_ _ _ (by first | exact Nat.le_refl _ | (simp; done) | (simp; omega) | omega) | refine up_trans ?_ (by assumption)))⟩
        · go_wp2_with fail
          refine (AP.out _).mono ?_
          rintro e w2 ⟨rfl, hb2⟩
          replace hW := up_trans (up_alloc hW _) hb2
          clear hb2 AP
          rcases ck with _ | _
          · have HF := Lib.hid (PS.out.2.1 (by trivial) (by trivial))
            go_wp2_with fail
            go_ret2
            rw [HP.out.1, HP.out.2, HF.out]
            exact ⟨rfl, by (repeat (first | exact Below.refl _ _ | assumption | refine Below.drew ?_ | refine up_drewN ?_ _ | refine up_alloc ?_ _ | refine up_set ?_ _ _ (by first | exact Nat.le_refl _ | (simp; done) | (simp; omega) | omega) | refine up_trans ?_ (by assumption)))⟩
          · have HF := Lib.hid (PS.out.2.2 (by trivial) (by trivial))
            go_wp2_with fail
            go_roundw
            case rel => exact ⟨k + 1, t2, by omega, by go_num, rfl, Lib.hid HF.out.2, Lib.hid HF.out.1, hW⟩
            case measure => simp [intOf]; omega
      · obtain rfl : k = rs.length := by omega
        have HF := Lib.hid (pl_last HQ.out)
        go_wp2_with fail
        go_ret2
        rw [HP.out.1, HP.out.2, HF.out]
        exact ⟨rfl, hW⟩
  · have i30 : (30 : Int) < (rs.length : Int) := by omega
    have H1 := Lib.hid (show zs = [] ∧ zn = -1 by rw [HZ.out.1, HZ.out.2]; unfold plS plN; rw [if_neg (fun h => h30 h.2), if_neg (fun h => h30 h.2)]; exact ⟨rfl, rfl⟩)
    go_enter Tryz.func77, Tryz.ntmps77
    go_wp2_with (go_at_call 53; refine (implTextValid_any s _ hml).mono ?_; rintro e w1 ⟨rfl, rfl⟩)
    go_ret2
    rw [H1.out.1, H1.out.2]
    exact ⟨rfl, by (repeat (first | exact Below.refl _ _ | assumption | refine Below.drew ?_ | refine up_drewN ?_ _ | refine up_alloc ?_ _ | refine up_set ?_ _ _ (by first | exact Nat.le_refl _ | (simp; done) | (simp; omega) | omega) | refine up_trans ?_ (by assumption)))⟩

set_option maxRecDepth 100000 in
set_option maxHeartbeats 1000000 in
theorem specPlay_any (s : List UInt8) (v : Value) (rs : List (List UInt8)) (w : World) (hs : s.length ≤ 1048577) (hv : RdL w 1 strC v rs) (hr : ∀ r ∈ rs, r.length ≤ 1048576) :
    Calls Tryz.prog 75 #[S s, v] w fun e w' => e = .returned (.tuple #[S (plS s rs), .int .i64 (plN s rs)]) ∧ Below w.heap.size w w' := by
  obtain ⟨A, c, rfl, _, _⟩ := hv.form
  obtain ⟨zs, hzs⟩ : ∃ z, z = plS s rs := ⟨_, rfl⟩
  obtain ⟨zn, hzn⟩ : ∃ z, z = plN s rs := ⟨_, rfl⟩
  have HZ := Lib.hid (And.intro hzs hzn)
  rw [← hzs, ← hzn]
  clear hzs hzn
  have hml : s.length ≤ maxLen := by unfold maxLen; omega
  have HV := Lib.hid hv
  have HR := Lib.hid hr
  clear hv hr
  rcases ht : tv s with _ | _
  · have H1 := Lib.hid (show zs = [] ∧ zn = -1 by rw [HZ.out.1, HZ.out.2]; unfold plS plN; rw [ht]; simp)
    go_enter Tryz.func75, Tryz.ntmps75
    go_wp2_with (go_at_call 32; refine (specTextValid_any s _ hml).mono ?_; rintro e w1 ⟨rfl, rfl⟩)
    go_ret2
    rw [H1.out.1, H1.out.2]
    exact ⟨rfl, by (repeat (first | exact Below.refl _ _ | assumption | refine Below.drew ?_ | refine up_drewN ?_ _ | refine up_alloc ?_ _ | refine up_set ?_ _ _ (by first | exact Nat.le_refl _ | (simp; done) | (simp; omega) | omega) | refine up_trans ?_ (by assumption)))⟩
  by_cases h30 : rs.length ≤ 30
  · have i30 : ¬ (30 : Int) < (rs.length : Int) := by omega
    have HP := Lib.hid (show zs = (pl s rs).1 ∧ zn = ((pl s rs).2 : Nat) by rw [HZ.out.1, HZ.out.2]; unfold plS plN; rw [if_pos ⟨ht, h30⟩, if_pos ⟨ht, h30⟩]; exact ⟨rfl, rfl⟩)
    have HT := Lib.hid ht
    go_enter Tryz.func75, Tryz.ntmps75
    go_wp2_with (go_at_call 32; refine (specTextValid_any s _ hml).mono ?_; rintro e w1 ⟨rfl, rfl⟩)
    clear ht
    go_loopw [0, 6] (fun u i wr => ∃ (k : Nat) (t : List UInt8), k ≤ rs.length ∧ i = .int .i64 k ∧ u = S t ∧ Hid (tv t = true) ∧ Hid (pl s rs = ((pl t (rs.drop k)).1, k + (pl t (rs.drop k)).2)) ∧ Below w.heap.size w wr) (fun _ i _ => rs.length - (intOf i).toNat)
    case atStart => exact ⟨0, s, Nat.zero_le _, rfl, rfl, HT, Lib.hid (by simp), Below.refl _ _⟩
    case round =>
      obtain ⟨k, t, hk, rfl, rfl, HT2, HQ, hW⟩ := hrel
      by_cases hlt : k < rs.length
      · have j1 : (0 : Int) ≤ (k : Int) := by omega
        have j2 : (k : Int) < (rs.length : Int) := by omega
        obtain ⟨b, o, rfl, hb, hc⟩ := (RdL.up HV.out hW).cells strC_len hlt
        have c0 := hc 0 _ rfl
        simp only [Nat.mul_one, Nat.add_zero] at c0
        have hrl := HR.out _ (List.getElem_mem hlt)
        have htl := tv_len HT2.out
        have hxl := rdC_len rs[k]
        have PS := Lib.hid (pl_step hlt HQ.out)
        have RR := Lib.hid (fun w => specReadRecord_any rs[k] w (by omega))
        generalize rs[k] = r at *
        generalize rdC r = x at *
        generalize rdB r = rb at *
        obtain ⟨xa, xc, xp⟩ := x
        simp only at PS hxl
        have AP := Lib.hid (fun w => specApplyChange_any t xa xc xp w (by unfold maxLen; omega) (by omega))
        unfold AcPost chV at AP
        unfold chAgg at RR
        simp only at RR
        generalize chOk t xa xc xp = ck at *
        generalize apTo t xa xc xp = t2 at *
        clear hc
        go_wp2_with fail
        refine (RR.out _).mono ?_
        rintro e w1 ⟨rfl, hb1⟩
        replace hW := up_trans hW hb1
        clear hb1 RR c0
        go_wp2_with fail
        refine (AP.out _).mono ?_
        rintro e w2 ⟨rfl, hb2⟩
        replace hW := up_trans (up_alloc hW _) hb2
        clear hb2 AP
        rcases rb with _ | _
        · have HF := Lib.hid (PS.out.1 (by trivial))
          go_wp2_with fail
          go_ret2
          rw [HP.out.1, HP.out.2, HF.out]
          exact ⟨rfl, by (repeat (first | exact Below.refl _ _ | assumption | refine Below.drew ?_ | refine up_drewN ?_ _ | refine up_alloc ?_ _ | refine up_set ?_ _ _ (by first | exact Nat.le_refl _ | (simp; done) | (simp; omega) | omega) | refine up_trans ?_ (by assumption)))⟩
        · rcases ck with _ | _
          · have HF := Lib.hid (PS.out.2.1 (by trivial) (by trivial))
            go_wp2_with fail
            go_ret2
            rw [HP.out.1, HP.out.2, HF.out]
            exact ⟨rfl, by (repeat (first | exact Below.refl _ _ | assumption | refine Below.drew ?_ | refine up_drewN ?_ _ | refine up_alloc ?_ _ | refine up_set ?_ _ _ (by first | exact Nat.le_refl _ | (simp; done) | (simp; omega) | omega) | refine up_trans ?_ (by assumption)))⟩
          · have HF := Lib.hid (PS.out.2.2 (by trivial) (by trivial))
            go_wp2_with fail
            go_roundw
            case rel => exact ⟨k + 1, t2, by omega, by go_num, rfl, Lib.hid HF.out.2, Lib.hid HF.out.1, hW⟩
            case measure => simp [intOf]; omega
      · obtain rfl : k = rs.length := by omega
        have HF := Lib.hid (pl_last HQ.out)
        go_wp2_with fail
        go_ret2
        rw [HP.out.1, HP.out.2, HF.out]
        exact ⟨rfl, hW⟩
  · have i30 : (30 : Int) < (rs.length : Int) := by omega
    have H1 := Lib.hid (show zs = [] ∧ zn = -1 by rw [HZ.out.1, HZ.out.2]; unfold plS plN; rw [if_neg (fun h => h30 h.2), if_neg (fun h => h30 h.2)]; exact ⟨rfl, rfl⟩)
    go_enter Tryz.func75, Tryz.ntmps75
    go_wp2_with (go_at_call 32; refine (specTextValid_any s _ hml).mono ?_; rintro e w1 ⟨rfl, rfl⟩)
    go_ret2
    rw [H1.out.1, H1.out.2]
    exact ⟨rfl, by (repeat (first | exact Below.refl _ _ | assumption | refine Below.drew ?_ | refine up_drewN ?_ _ | refine up_alloc ?_ _ | refine up_set ?_ _ _ (by first | exact Nat.le_refl _ | (simp; done) | (simp; omega) | omega) | refine up_trans ?_ (by assumption)))⟩

end Go.Proofs.YtbjlkdenkmbepaaGreatDoor
