/- What is proved here: What is proved here: contracts of FindPlaces in the reference. What is proved here: contracts of ReplacePlaces in the reference. No condition. -/
import Derived.Test.YtbjlkdenkmbepaaGreatDoorRn0
import Derived.Test.YtbjlkdenkmbepaaGreatDoorAc0
import Derived.Test.YtbjlkdenkmbepaaGreatDoorLin2
import Derived.Test.YtbjlkdenkmbepaaGreatDoorBase
namespace Go.Proofs.YtbjlkdenkmbepaaGreatDoor
open Go.RowKit
set_option linter.unusedVariables false

def IntsPost (ps : List Nat) (w : World) (e : Ending) (w' : World) : Prop :=
  ∃ v, e = .returned v ∧ Own w' w.heap.size 3 1 v ps.length (ps.map natC) ∧ Below w.heap.size w w'
theorem fpl_len (s t : List UInt8) : (fpl s t).length ≤ s.length := by
  have := fps_len s t (s.length + 1) 0 (Nat.zero_le _)
  unfold fpl
  omega
theorem own_emptyI (w : World) (B : Nat) (hB : B ≤ w.heap.size) : Own (w.alloc (.cells #[] 3)) B 3 1 (.slice (some ⟨w.heap.size, 0, none⟩) 0 0) 0 [] :=
  World.ownsRow_lit (base := B) (e := 3) (size := 1) w #[] 0 hB (Nat.zero_le _) rfl
def nxM (n : Nat) (i : Int) : Nat := if i < 0 then 0 else n + 1 - i.toNat
theorem nxM_no (n : Nat) : nxM n (-1) = 0 := by unfold nxM; rw [if_pos (by omega)]
theorem nxM_nat (n k : Nat) : nxM n (k : Int) = n + 1 - k := by unfold nxM; rw [if_neg (by omega), Int.toNat_natCast]
set_option maxRecDepth 100000 in
set_option maxHeartbeats 1000000 in
theorem specFindPlaces_any (s t : List UInt8) (w : World) (hs : tv s = true) (hne : t ≠ []) (ht : t.length ≤ 1048576) :
    Calls Tryz.prog 140 #[S s, S t] w (IntsPost (fpl s t) w) := by
  have FN := Lib.hid (fun p w (hp : p ≤ 1048576) (_ : True) => specFindNext_any s t p w hs hp ht)
  have HO0 : Hid (Own (w.alloc (.cells #[] 3)) w.heap.size 3 1 (.slice (some ⟨w.heap.size, 0, none⟩) 0 0) ([] : List Nat).length (([] : List Nat).map natC)) := Lib.hid (own_emptyI w _ (Nat.le_refl _))
  have HW0 : Hid (Below w.heap.size w (w.alloc (.cells #[] 3))) := Lib.hid (up_alloc (Below.refl _ _) _)
  have hl := tv_len hs
  have htl : 0 < t.length := by cases t <;> simp_all
  obtain ⟨i0, hi, hz0, hz1, hz2⟩ := info_parts i64_info
  have hfl := fpl_len s t
  have F0 := Lib.hid (show fpl s t = fps s t (s.length + 1) 0 from rfl)
  unfold IntsPost
  clear hs hne
  generalize hP : fpl s t = PS at *
  clear hP
  go_enter Tryz.func140, Tryz.ntmps140
  go_wp2_with fail
  refine (FN.out 0 _ (by omega) (by trivial)).mono ?_
  rintro e w1 ⟨rfl, rfl⟩
  go_wp2_with fail
  go_loopw [5, 6] (fun v i wr => ∃ (v0 : Value) (acc : List Nat) (n p : Nat), v0 = v ∧ i = .int .i64 (fnx s t p) ∧ acc.length ≤ s.length ∧ s.length < n + p ∧ Hid (PS = acc ++ fps s t n p) ∧ Hid (Own wr w.heap.size 3 1 v acc.length (acc.map natC)) ∧ Hid (Below w.heap.size w wr)) (fun _ i _ => nxM s.length (intOf i))
  case atStart => exact ⟨_, [], s.length + 1, 0, rfl, rfl, Nat.zero_le _, by omega, F0, HO0, HW0⟩
  case round =>
    obtain ⟨v0, acc, n, p, rfl, rfl, hac, hn, HP, HO, HW⟩ := hrel
    clear HO0 HW0 F0
    rcases fnx_room (s.length - p) p s t (Nat.le_refl _) with hr | ⟨k, hr, hr1, hr2, hr3⟩
    · have HE := Lib.hid (show PS = acc by rw [HP.out, fps_no hr, List.append_nil])
      rw [hr]
      clear hr
      go_wp2_with fail
      go_ret
      rw [HE.out]
      exact ⟨_, rfl, HO.out, HW.out⟩
    · obtain ⟨m, rfl⟩ : ∃ m, n = m + 1 := ⟨n - 1, by omega⟩
      have HS := Lib.hid (show PS = (acc ++ [k]) ++ fps s t m (k + t.length) by rw [HP.out, fps_yes hr, List.append_assoc]; rfl)
      rw [hr]
      have HR := Lib.hid hr
      have k0 : (0 : Int) ≤ (k : Int) := by omega
      have hac2 : acc.length + 1 ≤ s.length := by
        have := congrArg List.length HS.out
        rw [List.length_append, List.length_append, List.length_singleton] at this
        omega
      have hsz := HW.out.size
      have E1 := Lib.hid (show (k : Int) + (t.length : Int) = ((k + t.length : Nat) : Int) by omega)
      clear hr HP
      go_wp2_with (at_builtin; refine wpList_append_own _ rfl _ _ 100 rfl w.heap.size 3 i0 _ 1 8 Tryz.underlying100 hi hz0 hz1 hz2 rfl (by decide) _ _ _ rfl (HO.out.alloc _) ⟨wr.heap.size, 0, none⟩ 1 1 [.int .i64 (k : Int)] rfl rfl (cells_new _ _ _) (by intro u hu; simp at hu; subst hu; rfl) (by unfold maxLen; omega) (by omega) (by simp; omega) ?_; intro v5 w5 how5 hgr5 _)
      have HW5 := Lib.hid (up_grown (up_alloc HW.out _) hgr5 (own_lt HO.out (Nat.le_refl _)))
      have HO5 := Lib.hid (show Own w5 w.heap.size 3 1 v5 (acc ++ [k]).length ((acc ++ [k]).map natC) by rw [List.length_append, List.map_append]; exact how5)
      clear how5 hgr5
      go_wp2_with fail
      rw [E1.out]
      refine (FN.out (k + t.length) _ (by omega) (by trivial)).mono ?_
      rintro e w6 ⟨rfl, rfl⟩
      go_wp2_with fail
      go_roundw
      case rel => exact ⟨_, acc ++ [k], m, k + t.length, rfl, rfl, by rw [List.length_append, List.length_singleton]; omega, by omega, HS, HO5, HW5⟩
      case measure =>
        rcases fnx_room (s.length - (k + t.length)) (k + t.length) s t (Nat.le_refl _) with h1 | ⟨j, h1, h2, h3, h4⟩
        · rw [h1]
          show nxM s.length (-1) < nxM s.length (k : Int)
          rw [nxM_no, nxM_nat]
          omega
        · rw [h1]
          show nxM s.length (j : Int) < nxM s.length (k : Int)
          rw [nxM_nat, nxM_nat]
          omega

end Go.Proofs.YtbjlkdenkmbepaaGreatDoor

namespace Go.Proofs.YtbjlkdenkmbepaaGreatDoor
open Go.RowKit
set_option linter.unusedVariables false

def intC (k : Nat) : List Value := [natC k]
theorem intC_len (k : Nat) : (intC k).length = 1 := rfl
theorem map_flatI (ps : List Nat) : ps.map natC = ps.flatMap intC := by
  induction ps with
  | nil => rfl
  | cons p ps ih => rw [List.map_cons, List.flatMap_cons, ih]; rfl
theorem ints_rd {w : World} {B : Nat} {v : Value} {ps : List Nat} (h : Own w B 3 1 v ps.length (ps.map natC)) : RdL w 1 intC v ps := by
  rw [map_flatI] at h
  exact RdL.of_own h
theorem rpT_len (t u s : List UInt8) (hs : s.length ≤ 120) (hu : u.length ≤ 1048576) : (rpT t u s).length ≤ 130000000 := by
  have h1 := rpl_len s t u (fpl s t) 0
  have h2 := fpl_len s t
  have h3 : s.length * ((fpl s t).length + 1) ≤ 120 * 121 := Nat.mul_le_mul hs (by omega)
  have h4 : (fpl s t).length * u.length ≤ 120 * 1048576 := Nat.mul_le_mul (by omega) hu
  unfold rpT
  omega
theorem app3 (q x y z : List UInt8) : q ++ (x ++ (y ++ z)) = (q ++ (x ++ y)) ++ z := by simp
/-- what ReplacePlaces gives. -/
def RpIs (t u s z : List UInt8) (b : Bool) : Prop := (tv (rpT t u s) = true → z = rpT t u s ∧ b = true) ∧ (tv (rpT t u s) = false → z = s ∧ b = false)

set_option maxRecDepth 100000 in
set_option maxHeartbeats 2000000 in
theorem specReplacePlaces_any (s t u : List UInt8) (w : World) (hs : tv s = true) (hne : t ≠ []) (ht : t.length ≤ 1048576) (hu : u.length ≤ 1048576) (z : List UInt8) (ok : Bool) (hz : RpIs t u s z ok) :
    Calls Tryz.prog 102 #[S s, S t, S u] w fun e w' => e = .returned (.tuple #[S z, .bool ok]) ∧ Below w.heap.size w w' := by
  have hl := tv_len hs
  have T := Lib.hid (fun w => specTextValid_any s w (by unfold maxLen; omega))
  rw [hs] at T
  have FP := Lib.hid (fun w => specFindPlaces_any s t w hs hne ht)
  have hRl := rpT_len t u s hl hu
  have htl : 0 < t.length := by cases t <;> simp_all
  have TR := Lib.hid (fun w => specTextValid_any (rpT t u s) w (by unfold maxLen; omega))
  have HF := Lib.hid (show rpT t u s = [] ++ rpl s t u 0 ((fpl s t).drop 0) from rfl)
  have HP := Lib.hid (show Fp s t 0 ((fpl s t).drop 0) from fps_fp s t _ 0)
  have hfl := fpl_len s t
  have HZ := Lib.hid hz
  have b1 : (t == []) = false := by simpa using hne
  have b2 : t.isEmpty = false := by simpa using hne
  unfold IntsPost at FP
  unfold RpIs at HZ
  clear hs hne hz
  generalize rpT t u s = R at *
  generalize fpl s t = ps at *
  go_enter Tryz.func102, Tryz.ntmps102
  go_wp2_with fail
  refine (T.out _).mono ?_
  rintro e w1 ⟨rfl, rfl⟩
  go_wp2_with fail
  refine (FP.out _).mono ?_
  rintro e w1 ⟨v, rfl, ho, hb⟩
  have HR := Lib.hid (ints_rd ho)
  have HB := Lib.hid hb
  obtain ⟨A, c, rfl, _, _⟩ := (ints_rd ho).form
  clear ho hb T FP
  go_wp2_with fail
  go_loop [8, 9, 11] (fun o at_ i => ∃ (k a : Nat) (q : List UInt8), k ≤ ps.length ∧ a ≤ s.length ∧ i = .int .i64 k ∧ at_ = .int .i64 a ∧ o = S q ∧ Hid (R = q ++ rpl s t u a (ps.drop k)) ∧ Hid (Fp s t a (ps.drop k))) (fun _ _ i => ps.length - (intOf i).toNat)
  case atStart => exact ⟨0, 0, [], Nat.zero_le _, Nat.zero_le _, rfl, rfl, rfl, HF, HP⟩
  case round =>
    obtain ⟨k, a, q, hk, ha, rfl, rfl, rfl, HQ, HFp⟩ := hrel
    clear HF HP
    have hql : q.length ≤ 130000000 := by
      have := congrArg List.length HQ.out
      rw [List.length_append] at this
      omega
    have a0 : (0 : Int) ≤ (a : Int) := by omega
    have a1 : (a : Int) ≤ (s.length : Int) := by omega
    by_cases hlt : k < ps.length
    · have i1 : (0 : Int) ≤ (k : Int) := by omega
      have i2 : (k : Int) < (ps.length : Int) := by omega
      obtain ⟨b, o, rfl, _, hc⟩ := HR.out.cells intC_len hlt
      have c0 := hc 0 _ rfl
      simp only [Nat.mul_one, Nat.add_zero] at c0
      have hd := List.drop_eq_getElem_cons hlt
      obtain ⟨p, hp⟩ : ∃ p, p = ps[k] := ⟨_, rfl⟩
      rw [← hp] at c0 hd
      have hfp := HFp.out
      rw [hd] at hfp
      obtain ⟨f1, f2, f3⟩ := hfp
      have HQ2 := Lib.hid (show R = (q ++ ((s.take p).drop a ++ u)) ++ rpl s t u (p + t.length) (ps.drop (k + 1)) by rw [HQ.out, hd, rpl, app3])
      have HF2 := Lib.hid f3
      have hxl : ((s.take p).drop a).length ≤ 120 := by rw [List.length_drop, List.length_take]; omega
      have p1 : (a : Int) ≤ (p : Int) := by omega
      have p2 : (p : Int) ≤ (s.length : Int) := by omega
      clear hc hd hp f3 HQ HFp
      unfold natC at c0
      go_wp2_with fail
      go_round
      case rel => exact ⟨k + 1, p + t.length, _, by omega, by omega, by go_num, by go_num, rfl, HQ2, HF2⟩
      case measure => simp [intOf]; omega
    · obtain rfl : k = ps.length := by omega
      have HE := Lib.hid (show q ++ s.drop a = R by rw [HQ.out, List.drop_of_length_le (Nat.le_refl _), rpl])
      have hdl : (s.drop a).length ≤ 120 := by rw [List.length_drop]; omega
      clear HQ HFp HR
      go_wp2_with fail
      rw [HE.out]
      refine (TR.out _).mono ?_
      rintro e w2 ⟨rfl, rfl⟩
      rcases hb : tv R with _ | _
      · obtain ⟨hz1, hz2⟩ := HZ.out.2 hb
        subst hz1 hz2
        clear hb TR HZ
        go_wp2_with fail
        go_ret2
        exact ⟨rfl, HB.out⟩
      · obtain ⟨hz1, hz2⟩ := HZ.out.1 hb
        subst hz1 hz2
        clear hb TR HZ
        go_wp2_with fail
        go_ret2
        exact ⟨rfl, HB.out⟩

end Go.Proofs.YtbjlkdenkmbepaaGreatDoor
