/- What is proved here: contracts of HistoryRecords in the program and in the reference. Condition: what the table of powers of ten holds. -/
import Derived.Test.YtbjlkdenkmbepaaGreatDoorHistC
import Derived.Test.YtbjlkdenkmbepaaGreatDoorRp6
import Derived.Test.YtbjlkdenkmbepaaGreatDoorHistR
import Derived.Test.YtbjlkdenkmbepaaGreatDoorBase
import Derived.Deep.Cut
namespace Go.Proofs.YtbjlkdenkmbepaaGreatDoor
open Go.RowKit
set_option linter.unusedVariables false

/-- the records that lead to the state of a history. -/
def hrR (ms : List Mo) (a : Int) : List (List UInt8) := hrF ms ms.length a
def HrPost (rs : List (List UInt8)) (w : World) (e : Ending) (w' : World) : Prop := ∃ v, e = .returned v ∧ Own w' w.heap.size 9 1 v rs.length (rs.flatMap strC) ∧ Below w.heap.size w w'
theorem own_one (w : World) (base : Nat) (r : List UInt8) (hb : base ≤ w.heap.size) : Own (w.alloc (.cells #[S r] 9)) base 9 1 (.slice (some ⟨w.heap.size, 0, none⟩) 1 1) 1 [S r] :=
  ⟨rfl, .inr ⟨w.heap.size, 1, #[S r], rfl, hb, heap_alloc_new w _, Nat.le_refl _, by unfold maxLen; omega, rfl, rfl⟩⟩

set_option maxRecDepth 100000 in
set_option maxHeartbeats 1000000 in
theorem implHr_no (v : Value) (ms : List Mo) (a : Int) (s : List UInt8) (w : World) (h : RdM w v ms) (hn : ms.length ≤ 1048576) (hs : s.length ≤ maxLen) (hg : ¬ ∃ o, HGood ms a s o) :
    Calls Tryz.prog 38 #[.agg #[v, .int .i64 a], S s] w (HrPost [] w) := by
  obtain ⟨A, c, rfl, _, _⟩ := h.1.form
  have T := Lib.hid (fun (w' : World) (hb : Below w.heap.size w w') => implHistoryValid_any (.slice A ms.length c) ms a s w' (h.up hb) hn hs)
  clear h
  go_enter Tryz.func38, Tryz.ntmps38
  go_wp2_with fail
  refine (T.out _ (by (repeat (first | exact Below.refl _ _ | assumption | refine Below.drew ?_ | refine up_drewN ?_ _ | refine up_alloc ?_ _ | refine up_set ?_ _ _ (by first | exact Nat.le_refl _ | (simp; done) | (simp; omega) | omega) | refine up_trans ?_ (by assumption))))).mono ?_
  rintro e w1 ⟨ok, rfl, hok, hb⟩
  obtain rfl : ok = false := by cases ok with | false => rfl | true => exact absurd (hok.1 rfl) hg
  have hW : Below w.heap.size w w1 := by (repeat (first | exact Below.refl _ _ | assumption | refine Below.drew ?_ | refine up_drewN ?_ _ | refine up_alloc ?_ _ | refine up_set ?_ _ _ (by first | exact Nat.le_refl _ | (simp; done) | (simp; omega) | omega) | refine up_trans ?_ (by assumption)))
  clear hb hok T
  go_wp2_with fail
  go_ret
  exact ⟨_, rfl, World.ownsRow_nil _ _ _ _, hW⟩

set_option maxRecDepth 100000 in
set_option maxHeartbeats 2000000 in
theorem implHr_yes (v : Value) (ms : List Mo) (a : Int) (s : List UInt8) (w : World) (o : List (List UInt8)) (h : RdM w v ms) (hg : HGood ms a s o) (hL : LT w) :
    Calls Tryz.prog 38 #[.agg #[v, .int .i64 a], S s] w (HrPost (hrR ms a) w) := by
  have hn30 := hg.n30
  have hsl := tv_len hg.t
  have ha0 := hg.a0
  have ha1 := hg.a1
  obtain ⟨A, c, rfl, _, _⟩ := h.1.form
  obtain ⟨i0, hi, hz0, hz1, hz2⟩ := info_parts str_info
  have T := Lib.hid (fun (w' : World) (hb : Below w.heap.size w w') => implHistoryValid_any (.slice A ms.length c) ms a s w' (h.up hb) (by omega) (by unfold maxLen; omega))
  have HG := Lib.hid hg
  have HM := Lib.hid h
  have HW := Lib.hid hL
  clear h hg hL
  obtain ⟨a, rfl⟩ := Int.eq_ofNat_of_zero_le ha0
  unfold hrR
  obtain ⟨Z, hZ⟩ : ∃ Z, Z = hrF ms ms.length (a : Int) := ⟨_, rfl⟩
  rw [← hZ]
  have HZ := Lib.hid hZ
  clear hZ ha0
  go_enter Tryz.func38, Tryz.ntmps38
  go_wp2_with fail
  refine (T.out _ (by (repeat (first | exact Below.refl _ _ | assumption | refine Below.drew ?_ | refine up_drewN ?_ _ | refine up_alloc ?_ _ | refine up_set ?_ _ _ (by first | exact Nat.le_refl _ | (simp; done) | (simp; omega) | omega) | refine up_trans ?_ (by assumption))))).mono ?_
  rintro e w1 ⟨ok, rfl, hok, hb⟩
  obtain rfl : ok = true := hok.2 ⟨o, HG.out⟩
  have HX := Lib.hid ((IsB.new w #[.slice A ms.length c, .int .i64 (a : Int)] 25).up hb)
  have hW : Below w.heap.size w w1 := by (repeat (first | exact Below.refl _ _ | assumption | refine Below.drew ?_ | refine up_drewN ?_ _ | refine up_alloc ?_ _ | refine up_set ?_ _ _ (by first | exact Nat.le_refl _ | (simp; done) | (simp; omega) | omega) | refine up_trans ?_ (by assumption)))
  obtain ⟨xc, xf, xz⟩ := HX.out
  clear hb hok T
  go_wp2_with fail
  clear xc xf xz
  go_loopw [5, 6] (fun u i wr => ∃ (k f : Nat) (O : List (List UInt8)), k < ms.length ∧ k ≤ f ∧ f ≤ ms.length ∧ O.length + f ≤ ms.length ∧ i = .int .i64 k ∧ Hid (Z = hrF ms f (k : Int) ++ O) ∧ Hid (IsB wr w.heap.size #[.slice A ms.length c, .int .i64 (a : Int)]) ∧ Hid (Own wr w.heap.size 9 1 u O.length (O.flatMap strC)) ∧ Below w.heap.size w wr) (fun _ i _ => (intOf i).toNat)
  case atStart => exact ⟨a, ms.length, [], by omega, by omega, Nat.le_refl _, by simp, rfl, Lib.hid (by rw [HZ.out, List.append_nil]), HX, Lib.hid (World.ownsRow_nil _ _ _ _), hW⟩
  case round =>
    obtain ⟨k, f, O, hk, hkf, hf, hO, rfl, HQ, HX2, HOw, hWr⟩ := hrel
    by_cases h0 : 0 < k
    · have i1 : (0 : Int) < (k : Int) := by omega
      have i2 : (0 : Int) ≤ (k : Int) := by omega
      have i3 : (k : Int) < (ms.length : Int) := by omega
      obtain ⟨f, rfl⟩ : ∃ f', f = f' + 1 := ⟨f - 1, by omega⟩
      have hst := HG.out.step k h0 hk
      unfold Step at hst
      have hpl := (HM.out.len k).1
      have HQ2 := Lib.hid (hrF_step ms f (k := (k : Int)) (by omega))
      rw [Int.toNat_natCast] at HQ2
      obtain ⟨b, bo, rfl, hb, d0, d1, d2, d3, -, -, -⟩ := (HM.out.up hWr).cells hk rfl
      generalize ms.getD k m0 = m at *
      obtain ⟨mp, ⟨fa, fc, fp⟩, mb⟩ := m
      obtain ⟨s1, s2, -⟩ := hst
      simp only at s1 s2 hpl d0 d1 d2 d3 HQ2
      obtain ⟨q, rfl⟩ := Int.eq_ofNat_of_zero_le s1
      have RR := Lib.hid (fun w hw => implRecordText_any ⟨fa, fc, fp⟩ w hpl hw)
      unfold chAgg at RR
      simp only at RR
      generalize recT fa fc fp = r at *
      obtain ⟨xc, xf, xz⟩ := HX2.out
      go_wp2_with fail
      refine (RR.out _ (HW.out.up hWr)).mono ?_
      rintro e w2 ⟨rfl, hb2⟩
      have HX3 := Lib.hid (HX2.out.up hb2)
      have HO2 := Lib.hid (own_up HOw.out hb2)
      have hW2 := up_trans hWr hb2
      have hs2 := hW2.size
      replace d0 := (hb2.cell (p := ⟨b, bo + k * 7, none⟩) hb).trans d0
      have hbz := Nat.lt_of_lt_of_le hb hb2.size
      clear hb2 RR xc xf xz HX2 HOw hWr d1 d2 d3
      go_upto_region 6 with (at_builtin; go_loud (
         refine wpList_append_any _ rfl _ _ 28 rfl w.heap.size 9 i0 _ 1 16 Tryz.underlying28 hi hz0 hz1 hz2 rfl (by decide) _ 1 [S r] rfl (own_one w2 w.heap.size r hs2) _ O.length _ rfl (Rd.alloc (RdL.of_own (f := strC) (bs := O) HO2.out) _) (by intro x hx; rw [List.mem_flatMap] at hx; obtain ⟨y, _, hy⟩ := hx; simp [strC] at hy; rw [hy]; rfl) (by unfold maxLen; omega) (by omega) (by simp; omega) ?_
         intro v3 w3 how hgr
         have hB3 : Below w2.heap.size w2 w3 := up_grown (up_alloc (Below.refl _ _) _) hgr (fun i hi => by injection hi with hi; rw [← hi]; exact Nat.le_refl _)
         have HO3 := Lib.hid (show Own w3 w.heap.size 9 1 v3 (r :: O).length ((r :: O).flatMap strC) by
           have h7 := how
           rw [Nat.add_comm] at h7
           exact h7)
         clear how hgr))
      have HX4 := Lib.hid (HX3.out.up hB3)
      have hW3 := up_trans hW2 hB3
      replace d0 := (hB3.cell (p := ⟨b, bo + k * 7, none⟩) hbz).trans d0
      obtain ⟨xc, xf, xz⟩ := HX4.out
      clear HX3 HO2 hW2 hB3
      go_wp2_with fail
      go_roundw
      case rel => exact ⟨q, f, r :: O, by omega, by omega, by omega, by simp; omega, rfl, Lib.hid (by rw [HQ.out, HQ2.out]; simp), HX4, HO3, hW3⟩
      case measure => simp [intOf]; omega
    · obtain rfl : k = 0 := by omega
      have HF := Lib.hid (show Z = O by rw [HQ.out, hrF_zero ms f (by omega)]; rfl)
      have HO2 := HOw
      obtain ⟨xc, xf, xz⟩ := HX2.out
      go_wp2_with fail
      go_ret
      rw [HF.out]
      exact ⟨_, rfl, HO2.out, hWr⟩

set_option maxRecDepth 100000 in
set_option maxHeartbeats 1000000 in
theorem specHr_no (v : Value) (ms : List Mo) (a : Int) (s : List UInt8) (w : World) (h : RdM w v ms) (hn : ms.length ≤ 1048576) (hs : s.length ≤ maxLen) (hg : ¬ ∃ o, HGood ms a s o) :
    Calls Tryz.prog 76 #[.agg #[v, .int .i64 a], S s] w (HrPost [] w) := by
  obtain ⟨A, c, rfl, _, _⟩ := h.1.form
  have T := Lib.hid (fun (w' : World) (hb : Below w.heap.size w w') => specHistoryValid_any (.slice A ms.length c) ms a s w' (h.up hb) hn hs)
  have HO := Lib.hid (own_emptyS (w.alloc (.cells #[.slice A ms.length c, .int .i64 a] 25)) w.heap.size (by simp))
  clear h
  go_enter Tryz.func76, Tryz.ntmps76
  go_wp2_with fail
  have HX := Lib.hid ((IsB.new w #[.slice A ms.length c, .int .i64 a] 25).up (up_alloc (Below.refl _ _) (.cells #[] 9)))
  have sz0 : (w.alloc (.cells #[.slice A ms.length c, .int .i64 a] 25)).heap.size = w.heap.size + 1 := by simp
  rw [sz0] at HO
  obtain ⟨w1, hw1⟩ : ∃ z, z = (w.alloc (.cells #[.slice A ms.length c, .int .i64 a] 25)).alloc (.cells #[] 9) := ⟨_, rfl⟩
  have hW : Below w.heap.size w w1 := by rw [hw1]; (repeat (first | exact Below.refl _ _ | assumption | refine Below.drew ?_ | refine up_drewN ?_ _ | refine up_alloc ?_ _ | refine up_set ?_ _ _ (by first | exact Nat.le_refl _ | (simp; done) | (simp; omega) | omega) | refine up_trans ?_ (by assumption)))
  rw [← hw1] at HO HX ⊢
  clear hw1 sz0
  go_loopw [5, 6] (fun u i wr => u = .slice (some ⟨w.heap.size + 1, 0, none⟩) 0 0 ∧ i = .int .i64 a ∧ wr = w1) (fun _ _ _ => 0)
  case atStart => exact ⟨rfl, rfl, rfl⟩
  case round =>
    obtain ⟨rfl, rfl, rfl⟩ := hrel
    obtain ⟨xc, xf, xz⟩ := HX.out
    go_wp2_with fail
    refine (T.out _ hW).mono ?_
    rintro e w2 ⟨ok, rfl, hok, hb⟩
    obtain rfl : ok = false := by cases ok with | false => rfl | true => exact absurd (hok.1 rfl) hg
    have HO2 := Lib.hid (own_up HO.out hb)
    replace hW := up_trans hW hb
    clear hb hok T
    go_wp2_with fail
    go_ret
    exact ⟨_, rfl, HO2.out, hW⟩

set_option maxRecDepth 100000 in
set_option maxHeartbeats 2000000 in
theorem specHr_yes (v : Value) (ms : List Mo) (a : Int) (s : List UInt8) (w : World) (o : List (List UInt8)) (h : RdM w v ms) (hg : HGood ms a s o) :
    Calls Tryz.prog 76 #[.agg #[v, .int .i64 a], S s] w (HrPost (hrR ms a) w) := by
  have hn30 := hg.n30
  have hsl := tv_len hg.t
  have ha0 := hg.a0
  have ha1 := hg.a1
  obtain ⟨A, c, rfl, _, _⟩ := h.1.form
  obtain ⟨i0, hi, hz0, hz1, hz2⟩ := info_parts str_info
  obtain ⟨a, rfl⟩ := Int.eq_ofNat_of_zero_le ha0
  have T := Lib.hid (fun (w' : World) (hb : Below w.heap.size w w') => specHistoryValid_any (.slice A ms.length c) ms (a : Int) s w' (h.up hb) (by omega) (by unfold maxLen; omega))
  have HO := Lib.hid (own_emptyS (w.alloc (.cells #[.slice A ms.length c, .int .i64 (a : Int)] 25)) w.heap.size (by simp))
  have HG := Lib.hid hg
  have HM := Lib.hid h
  clear h hg
  unfold hrR
  obtain ⟨Z, hZ⟩ : ∃ Z, Z = hrF ms ms.length (a : Int) := ⟨_, rfl⟩
  rw [← hZ]
  have HZ := Lib.hid hZ
  clear hZ ha0
  go_enter Tryz.func76, Tryz.ntmps76
  go_wp2_with fail
  have HX := Lib.hid ((IsB.new w #[.slice A ms.length c, .int .i64 (a : Int)] 25).up (up_alloc (Below.refl _ _) (.cells #[] 9)))
  have sz0 : (w.alloc (.cells #[.slice A ms.length c, .int .i64 (a : Int)] 25)).heap.size = w.heap.size + 1 := by simp
  rw [sz0] at HO
  obtain ⟨w1, hw1⟩ : ∃ z, z = (w.alloc (.cells #[.slice A ms.length c, .int .i64 (a : Int)] 25)).alloc (.cells #[] 9) := ⟨_, rfl⟩
  have hW : Below w.heap.size w w1 := by rw [hw1]; (repeat (first | exact Below.refl _ _ | assumption | refine Below.drew ?_ | refine up_drewN ?_ _ | refine up_alloc ?_ _ | refine up_set ?_ _ _ (by first | exact Nat.le_refl _ | (simp; done) | (simp; omega) | omega) | refine up_trans ?_ (by assumption)))
  rw [← hw1] at HO HX ⊢
  clear hw1 sz0
  go_loopw [5, 6] (fun u i wr => ∃ (k f : Nat) (O : List (List UInt8)), k < ms.length ∧ k ≤ f ∧ f ≤ ms.length ∧ O.length + f ≤ ms.length ∧ i = .int .i64 k ∧ Hid (Z = hrF ms f (k : Int) ++ O) ∧ Hid (IsB wr w.heap.size #[.slice A ms.length c, .int .i64 (a : Int)]) ∧ Hid (Own wr w.heap.size 9 1 u O.length (O.flatMap strC)) ∧ Below w.heap.size w wr) (fun _ i _ => (intOf i).toNat)
  case atStart => exact ⟨a, ms.length, [], by omega, by omega, Nat.le_refl _, by simp, rfl, Lib.hid (by rw [HZ.out, List.append_nil]), HX, HO, hW⟩
  case round =>
    obtain ⟨k, f, O, hk, hkf, hf, hO, rfl, HQ, HX2, HOw, hWr⟩ := hrel
    clear HX HO hW
    obtain ⟨xc, xf, xz⟩ := HX2.out
    go_wp2_with fail
    refine (T.out _ hWr).mono ?_
    rintro e w1 ⟨ok, rfl, hok, hb⟩
    obtain rfl : ok = true := hok.2 ⟨o, HG.out⟩
    replace HX2 := Lib.hid (HX2.out.up hb)
    replace HOw := Lib.hid (own_up HOw.out hb)
    replace hWr := up_trans hWr hb
    clear hb hok xc xf xz
    by_cases h0 : 0 < k
    · have i1 : (0 : Int) < (k : Int) := by omega
      have i2 : (0 : Int) ≤ (k : Int) := by omega
      have i3 : (k : Int) < (ms.length : Int) := by omega
      obtain ⟨f, rfl⟩ : ∃ f', f = f' + 1 := ⟨f - 1, by omega⟩
      have hst := HG.out.step k h0 hk
      unfold Step at hst
      have hpl := (HM.out.len k).1
      have HQ2 := Lib.hid (hrF_step ms f (k := (k : Int)) (by omega))
      rw [Int.toNat_natCast] at HQ2
      obtain ⟨b, bo, rfl, hb, d0, d1, d2, d3, -, -, -⟩ := (HM.out.up hWr).cells hk rfl
      generalize ms.getD k m0 = m at *
      obtain ⟨mp, ⟨fa, fc, fp⟩, mb⟩ := m
      obtain ⟨s1, s2, -⟩ := hst
      simp only at s1 s2 hpl d0 d1 d2 d3 HQ2
      obtain ⟨q, rfl⟩ := Int.eq_ofNat_of_zero_le s1
      have RR := Lib.hid (fun w => specRecordText_any ⟨fa, fc, fp⟩ w hpl)
      unfold chAgg at RR
      simp only at RR
      generalize recT fa fc fp = r at *
      obtain ⟨xc, xf, xz⟩ := HX2.out
      go_wp2_with fail
      refine (RR.out _).mono ?_
      rintro e w2 ⟨rfl, hb2⟩
      have HX3 := Lib.hid (HX2.out.up hb2)
      have HO2 := Lib.hid (own_up HOw.out hb2)
      have hW2 := up_trans hWr hb2
      have hs2 := hW2.size
      replace d0 := (hb2.cell (p := ⟨b, bo + k * 7, none⟩) hb).trans d0
      have hbz := Nat.lt_of_lt_of_le hb hb2.size
      clear hb2 RR xc xf xz HX2 HOw hWr d1 d2 d3
      go_upto_region 4 with (at_builtin; go_loud (
         refine wpList_append_any _ rfl _ _ 28 rfl w.heap.size 9 i0 _ 1 16 Tryz.underlying28 hi hz0 hz1 hz2 rfl (by decide) _ 1 [S r] rfl (own_one w2 w.heap.size r hs2) _ O.length _ rfl (Rd.alloc (RdL.of_own (f := strC) (bs := O) HO2.out) _) (by intro x hx; rw [List.mem_flatMap] at hx; obtain ⟨y, _, hy⟩ := hx; simp [strC] at hy; rw [hy]; rfl) (by unfold maxLen; omega) (by omega) (by simp; omega) ?_
         intro v3 w3 how hgr
         have hB3 : Below w2.heap.size w2 w3 := up_grown (up_alloc (Below.refl _ _) _) hgr (fun i hi => by injection hi with hi; rw [← hi]; exact Nat.le_refl _)
         have HO3 := Lib.hid (show Own w3 w.heap.size 9 1 v3 (r :: O).length ((r :: O).flatMap strC) by
           have h7 := how
           rw [Nat.add_comm] at h7
           exact h7)
         clear how hgr))
      have HX4 := Lib.hid (HX3.out.up hB3)
      have hW3 := up_trans hW2 hB3
      replace d0 := (hB3.cell (p := ⟨b, bo + k * 7, none⟩) hbz).trans d0
      obtain ⟨xc, xf, xz⟩ := HX4.out
      clear HX3 HO2 hW2 hB3
      go_wp2_with fail
      go_roundw
      case rel => exact ⟨q, f, r :: O, by omega, by omega, by omega, by simp; omega, rfl, Lib.hid (by rw [HQ.out, HQ2.out]; simp), HX4, HO3, hW3⟩
      case measure => simp [intOf]; omega
    · obtain rfl : k = 0 := by omega
      have HF := Lib.hid (show Z = O by rw [HQ.out, hrF_zero ms f (by omega)]; rfl)
      have HO2 := HOw
      obtain ⟨xc, xf, xz⟩ := HX2.out
      go_wp2_with fail
      go_ret
      rw [HF.out]
      exact ⟨_, rfl, HO2.out, hWr⟩

end Go.Proofs.YtbjlkdenkmbepaaGreatDoor
