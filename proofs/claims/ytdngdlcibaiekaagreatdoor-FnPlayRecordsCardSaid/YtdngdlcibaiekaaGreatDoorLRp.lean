/- What is proved here: the walk of the law FnPlayRecords. Condition: what the library's variables hold. -/
import Derived.Test.YtdngdlcibaiekaaGreatDoorDrawRp
import Derived.Test.YtdngdlcibaiekaaGreatDoorRcP
import Derived.Test.YtdngdlcibaiekaaGreatDoorAlive
namespace Go.Proofs.YtdngdlcibaiekaaGreatDoor
open Go.RowKit
set_option linter.unusedVariables false

theorem rdS_nil (w : World) (A : Option Addr) (c : Nat) : RdL w 1 strC (.slice A 0 c) [] := ⟨rfl, Nat.zero_le _, A, c, rfl, Nat.zero_le _, fun h => absurd h (by simp)⟩
theorem rdS_take {w : World} {A : Option Addr} {n c k : Nat} {rs : List (List UInt8)} (h : RdL w 1 strC (.slice A n c) rs) (hk : k ≤ n) : RdL w 1 strC (.slice A k c) (rs.take k) := by
  obtain ⟨h1, h2, A', c', he, h3, h4⟩ := h
  injection he with e1 e2 e3
  subst e1 e3
  have hl : (rs.take k).length = k := by rw [List.length_take]; omega
  refine ⟨flat_len strC 1 strC_len _, by omega, A, c, by rw [hl], by omega, fun hp => ?_⟩
  obtain ⟨b, o, rfl, hb, hc⟩ := h4 (by omega)
  refine ⟨b, o, rfl, hb, fun j u hu => hc j u ?_⟩
  rw [flat_take strC 1 strC_len, Nat.mul_one] at hu
  have hj := (List.getElem?_eq_some_iff.1 hu).1
  rw [List.length_take] at hj
  rwa [List.getElem?_take_of_lt (by omega)] at hu
theorem rdS_drop {w : World} {b o n c k : Nat} {rs : List (List UInt8)} (h : RdL w 1 strC (.slice (some ⟨b, o, none⟩) n c) rs) (hk : k ≤ n) : RdL w 1 strC (.slice (some ⟨b, o + k, none⟩) (n - k) (c - k)) (rs.drop k) := by
  obtain ⟨h1, h2, A', c', he, h3, h4⟩ := h
  injection he with e1 e2 e3
  subst e1 e3
  have hl : (rs.drop k).length = n - k := by rw [List.length_drop]; omega
  refine ⟨flat_len strC 1 strC_len _, by omega, _, _, by rw [hl], by omega, fun hp => ?_⟩
  obtain ⟨b', o', e, hb, hc⟩ := h4 (by omega)
  injection e with e
  injection e with e4 e5
  subst e4 e5
  refine ⟨b, o + k, rfl, hb, fun j u hu => ?_⟩
  rw [flat_drop strC 1 strC_len, Nat.mul_one, List.getElem?_drop] at hu
  have := hc _ _ hu
  rwa [← Nat.add_assoc] at this
/-- what the law compares. -/
theorem play_law {s : List UInt8} {rs : List (List UInt8)} {k : Nat} (hs : tv s = true) (h30 : rs.length ≤ 30) (hk : k ≤ rs.length) :
    plN s rs = ((pl s rs).2 : Nat) ∧ plS s rs = (pl s rs).1 ∧ plS s (rs.take k) = (pl s (rs.take k)).1 ∧ plN s (rs.take k) = ((pl s (rs.take k)).2 : Nat) ∧
    plS (pl s (rs.take k)).1 (rs.drop k) = (pl (pl s (rs.take k)).1 (rs.drop k)).1 ∧ plN (pl s (rs.take k)).1 (rs.drop k) = ((pl (pl s (rs.take k)).1 (rs.drop k)).2 : Nat) ∧
    (pl s rs).2 ≤ rs.length ∧ (pl s (rs.take k)).2 ≤ k ∧ tv (pl s rs).1 = true ∧ (pl s rs).1.length ≤ 120 ∧ (pl s (rs.take k)).1.length ≤ 120 ∧
    ((pl s (rs.take k)).2 < k → pl s (rs.take k) = pl s rs) ∧ ((pl s (rs.take k)).2 = k → (pl s rs) = ((pl (pl s (rs.take k)).1 (rs.drop k)).1, k + (pl (pl s (rs.take k)).1 (rs.drop k)).2)) := by
  have hlt : (rs.take k).length = k := by rw [List.length_take]; omega
  have hld : (rs.drop k).length ≤ 30 := by rw [List.length_drop]; omega
  have ht1 := pl_tv rs s hs
  have ht2 := pl_tv (rs.take k) s hs
  have hle := pl_le (rs.take k) s
  unfold plS plN
  rw [if_pos ⟨hs, h30⟩, if_pos ⟨hs, h30⟩, if_pos ⟨hs, by omega⟩, if_pos ⟨hs, by omega⟩, if_pos ⟨ht2, hld⟩, if_pos ⟨ht2, hld⟩]
  refine ⟨rfl, rfl, rfl, rfl, rfl, rfl, pl_le rs s, by omega, ht1, tv_len ht1, tv_len ht2, fun h => ?_, fun h => ?_⟩
  · have := pl_stop (rs.take k) (rs.drop k) s (by omega)
    rw [List.take_append_drop] at this
    exact this.symm
  · have := pl_all (rs.take k) (rs.drop k) s (by omega)
    rw [List.take_append_drop, hlt] at this
    exact this

set_option maxRecDepth 100000 in
set_option maxHeartbeats 2000000 in
theorem playRecords_walk (v : Value) (n : Nat) (zs : List Int) (w : World) (h : Bytes w w.heap.size v n zs) (hL : LW w) :
    Calls Tryz.prog 7 #[v] w fun e w' => e = .returned (.bool true) ∧ Below w.heap.size w w' := by
  have h' := h
  obtain ⟨h1, h2, A0, c0', rfl, h3, h4, h5⟩ := h
  clear h5 h2 h1 h4
  by_cases hn : n ≤ 1048576
  case neg =>
    go_enter Tryz.func7, Tryz.ntmps7
    go_wp2_with fail
    go_ret
    exact ⟨rfl, Below.refl _ _⟩
  have HW := Lib.hid hL
  clear hL
  go_enter Tryz.func7, Tryz.ntmps7
  go_wp2_with fail
  refine (drawPlayRecords_any _ n zs _ (h'.to (by (repeat (first | exact Below.refl _ _ | assumption | refine Below.drew ?_ | refine up_drewN ?_ _ | refine up_alloc ?_ _ | refine up_set ?_ _ _ (by first | exact Nat.le_refl _ | (simp; done) | (simp; omega) | omega) | refine up_trans ?_ (by assumption)))))).mono ?_
  rintro e w1 ⟨s, lv, rs, rfl, hs, hrs, hrl, hlv, hb⟩
  have hW : Below w.heap.size w w1 := by (repeat (first | exact Below.refl _ _ | assumption | refine Below.drew ?_ | refine up_drewN ?_ _ | refine up_alloc ?_ _ | refine up_set ?_ _ _ (by first | exact Nat.le_refl _ | (simp; done) | (simp; omega) | omega) | refine up_trans ?_ (by assumption)))
  have hrl2 : ∀ r ∈ rs, r.length ≤ 1048576 := fun r hr => by have := hrl r hr; omega
  obtain ⟨A, c, rfl, hml, hnc⟩ := hlv.form
  have HL := Lib.hid hlv
  have P1 := Lib.hid (fun w hv hw => implPlay_any s (.slice A rs.length c) rs w (by omega) hv hrl2 hw)
  have P2 := Lib.hid (fun w hv => specPlay_any s (.slice A rs.length c) rs w (by omega) hv hrl2)
  clear hb h' hlv
  by_cases hok : tv s = true ∧ rs.length ≤ 30
  · obtain ⟨k, hk⟩ : ∃ k, k = rs.length / 2 := ⟨_, rfl⟩
    have hkN : k ≤ rs.length := by omega
    have ek : (rs.length : Int) / 2 = (k : Int) := by omega
    obtain ⟨l1, l2, l3, l4, l5, l6, l7, l8, l9, l10, l11, l12, l13⟩ := play_law hok.1 hok.2 hkN
    rw [l1, l2] at P1 P2
    have P3 := Lib.hid (fun v w hv hw => implPlay_any s v (rs.take k) w (by omega) hv (fun r hr => hrl2 r (List.mem_of_mem_take hr)) hw)
    have P4 := Lib.hid (fun v w hv hw => implPlay_any (pl s (rs.take k)).1 v (rs.drop k) w (by omega) hv (fun r hr => hrl2 r (List.mem_of_mem_drop hr)) hw)
    rw [l3, l4] at P3
    rw [l5, l6] at P4
    clear l1 l2 l3 l4 l5 l6
    generalize pl s rs = q1 at *
    generalize pl s (rs.take k) = q2 at *
    obtain ⟨x, m⟩ := q1
    obtain ⟨a, i⟩ := q2
    simp only at P1 P2 P3 P4 l7 l8 l9 l10 l11 l12 l13
    generalize pl a (rs.drop k) = q3 at *
    obtain ⟨bq, j⟩ := q3
    simp only [Prod.mk.injEq] at P4 l12 l13
    have L12 := Lib.hid l12
    have L13 := Lib.hid l13
    have TV := Lib.hid (fun w => implTextValid_any x w (by unfold maxLen; omega))
    rw [l9] at TV
    have hm0 : ¬ ((m : Nat) : Int) < 0 := by omega
    have hmN : (m : Int) ≤ (rs.length : Int) := by omega
    clear l12 l13 l9 hok hrl hrl2
    go_wp2_with fail
    refine (P1.out _ HL.out (HW.out.up hW)).mono ?_
    rintro e w2 ⟨rfl, hb⟩
    have HL2 := Lib.hid (RdL.up HL.out hb)
    replace hW := up_trans hW hb
    clear hb P1
    go_wp2_with fail
    refine (P2.out _ HL2.out).mono ?_
    rintro e w3 ⟨rfl, hb⟩
    have HL3 := Lib.hid (RdL.up HL2.out hb)
    replace hW := up_trans hW hb
    clear hb P2 HL2
    have k0 : (0 : Int) ≤ (k : Int) := by omega
    have kc : (k : Int) ≤ (c : Int) := by omega
    clear hk
    go_wp2_with fail
    refine (P3.out _ _ (rdS_take HL3.out hkN) (HW.out.up hW)).mono ?_
    rintro e w4 ⟨rfl, hb⟩
    have HL4 := Lib.hid (RdL.up HL3.out hb)
    replace hW := up_trans hW hb
    clear hb P3 HL3
    by_cases hz : 0 < rs.length
    · obtain ⟨b, o, rfl, -, -⟩ := HL4.out.cells strC_len hz
      have hne : ¬ (k : Int) = (c : Int) := by omega
      have hne2 : ¬ k = c := by omega
      have hne3 : ¬ c = k := by omega
      go_wp2_with fail
      refine (P4.out _ _ (rdS_drop HL4.out hkN) (HW.out.up hW)).mono ?_
      rintro e w5 ⟨rfl, hb⟩
      replace hW := up_trans hW hb
      clear hb P4 HL4
      by_cases hik : i < k
      · obtain ⟨rfl, rfl⟩ := L12.out hik
        have j1 : (i : Int) < (k : Int) := by omega
        clear L12 L13
        go_wp2_with fail
        refine (TV.out _).mono ?_
        rintro e w6 ⟨rfl, rfl⟩
        go_wp2_with fail
        go_ret
        exact ⟨rfl, hW⟩
      · obtain rfl : i = k := by omega
        obtain ⟨rfl, hmj⟩ := L13.out rfl
        have j1 : ¬ (i : Int) < (i : Int) := by omega
        have hmj2 : (m : Int) = (i : Int) + (j : Int) := by omega
        have hjb : (j : Int) ≤ 30 := by omega
        clear L12 L13 hmj hm0
        go_wp2_with fail
        refine (TV.out _).mono ?_
        rintro e w6 ⟨rfl, rfl⟩
        go_wp2_with fail
        go_ret
        exact ⟨rfl, hW⟩
    · obtain rfl : rs = [] := List.length_eq_zero_iff.1 (by omega)
      obtain rfl : k = 0 := by simpa using hkN
      obtain rfl : i = 0 := by omega
      obtain ⟨rfl, hmj⟩ := L13.out rfl
      obtain rfl : m = j := by omega
      have hmj2 : m = 0 := by simpa using l7
      obtain rfl := hmj2
      clear L12 L13 hmj
      go_wp2_with fail
      refine (P4.out _ _ (rdS_nil _ _ _) (HW.out.up hW)).mono ?_
      rintro e w5 ⟨rfl, hb⟩
      replace hW := up_trans hW hb
      clear hb P4 HL4
      go_wp2_with fail
      refine (TV.out _).mono ?_
      rintro e w6 ⟨rfl, rfl⟩
      go_wp2_with fail
      go_ret
      exact ⟨rfl, hW⟩
  · have e1 : plS s rs = [] := by unfold plS; rw [if_neg hok]
    have e2 : plN s rs = -1 := by unfold plN; rw [if_neg hok]
    rw [e1, e2] at P1 P2
    clear e1 e2 hok
    go_wp2_with fail
    refine (P1.out _ HL.out (HW.out.up hW)).mono ?_
    rintro e w2 ⟨rfl, hb⟩
    have HL2 := Lib.hid (RdL.up HL.out hb)
    replace hW := up_trans hW hb
    clear hb P1
    go_wp2_with fail
    refine (P2.out _ HL2.out).mono ?_
    rintro e w3 ⟨rfl, hb⟩
    replace hW := up_trans hW hb
    clear hb P2
    go_wp2_with fail
    refine (alive_any _).mono ?_
    rintro e w4 ⟨rfl, rfl⟩
    go_wp2_with fail
    go_ret
    exact ⟨rfl, hW⟩

end Go.Proofs.YtdngdlcibaiekaaGreatDoor
