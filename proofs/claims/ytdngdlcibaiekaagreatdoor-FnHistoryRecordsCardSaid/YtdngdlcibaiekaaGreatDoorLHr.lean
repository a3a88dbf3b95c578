/- What is proved here: the walk of the law FnHistoryRecords. Condition: what the library's variables hold. -/
import Derived.Test.YtdngdlcibaiekaaGreatDoorL20H
import Derived.Test.YtdngdlcibaiekaaGreatDoorRcH
import Derived.Test.YtdngdlcibaiekaaGreatDoorRcP
import Derived.Test.YtdngdlcibaiekaaGreatDoorAlive
import Derived.Test.YtdngdlcibaiekaaGreatDoorHistV
namespace Go.Proofs.YtdngdlcibaiekaaGreatDoor
open Go.RowKit
set_option linter.unusedVariables false

/-- what the draw gives: some history and some text, both small. -/
def DrawHrPost (w : World) (e : Ending) (w' : World) : Prop := ∃ (v : Value) (ms : List Mo) (a : Int) (s : List UInt8), e = .returned (.tuple #[.agg #[v, .int .i64 a], S s]) ∧ RdM w' v ms ∧ ms.length ≤ 30 ∧ s.length ≤ 130 ∧ Below w.heap.size w w'
theorem rdM_set {w : World} {v : Value} {ms : List Mo} {p : Addr} {u : Value} (h : RdM w v ms) (hn : ∀ x, v.ownBlock = some x → x ≠ p.block) : RdM (w.setCell p u) v ms :=
  ⟨Rd.keep h.1 (by simp [World.setCell]) (fun b o hv _ => World.cell?_setCell_other w p ⟨b, o, none⟩ u (fun e => hn b hv (by rw [e]))), h.2⟩

set_option maxRecDepth 100000 in
set_option maxHeartbeats 1000000 in
theorem drawHistoryRecords_any (v : Value) (n : Nat) (zs : List Int) (w : World) (h : Bytes w w.heap.size v n zs) :
    Calls Tryz.prog 33 #[v] w (DrawHrPost w) := by
  go_enter Tryz.func33, Tryz.ntmps33
  go_wp2_with fail
  refine (open_any v n zs _ (h.to (by (repeat (first | exact Below.refl _ _ | assumption | refine Below.drew ?_ | refine up_drewN ?_ _ | refine up_alloc ?_ _ | refine up_set ?_ _ _ (by first | exact Nat.le_refl _ | (simp; done) | (simp; omega) | omega) | refine up_trans ?_ (by assumption)))))).mono ?_
  rintro e w1 ⟨g, m, ys, rfl, hr, hb, hg⟩
  have rc : ∀ o, w1.cell? ⟨w.heap.size, o, none⟩ = #[.slice none 0 0, .int .i64 0][o]? := (fun o => (hb.cell (p := ⟨w.heap.size, o, none⟩) (by simp <;> omega)).trans (by simp [go_sem])); have rf : ∀ o, w1.frozen? ⟨w.heap.size, o, none⟩ = false := (fun o => (hb.frozen (p := ⟨w.heap.size, o, none⟩) (by simp <;> omega)).trans (by simp [go_sem])); have rz : w.heap.size < w1.heap.size := (by have := hb.size; (try simp at this); omega); have ry := rz
  have hW : Below w.heap.size w w1 := by (repeat (first | exact Below.refl _ _ | assumption | refine Below.drew ?_ | refine up_drewN ?_ _ | refine up_alloc ?_ _ | refine up_set ?_ _ _ (by first | exact Nat.le_refl _ | (simp; done) | (simp; omega) | omega) | refine up_trans ?_ (by assumption)))
  have hg2 : w.heap.size < g := by simp at hg; omega
  clear hb h hg
  go_wp2_with fail
  refine (l20History_any g m ys 0 9 _ hr (by omega)).mono ?_
  rintro e w2 ⟨u, ms, a, s, rfl, H, hl, hs, hlo, -, -, hb⟩
  have rc2 := gup_c hb rz (by omega) rc
  have rf2 := gup_f hb rz (by omega) rf
  have HW := Lib.hid (show Below w.heap.size w w2 from ⟨hb.os.trans hW.os, hb.tape.trans hW.tape, hb.output.trans hW.output, Nat.le_trans hW.size hb.size, fun i hi => (hb.block i (Nat.lt_of_lt_of_le hi hW.size) (by simp; omega)).trans (hW.block i hi)⟩)
  have HH := Lib.hid H
  obtain ⟨A, c, rfl, -, -⟩ := H.1.form
  clear hb H rc rf hW hr
  go_wp2_with fail
  refine bodyPost_ret (v := .tuple #[.agg #[.slice A ms.length c, .int .i64 a], S s]) (by simp [results, Tryz.results33, go_sem, rc2]) rfl ⟨_, ms, a, s, rfl, ?_, hl, hs, ?_⟩
  · refine rdM_set (rdM_set HH.out ?_) ?_ <;> (intro x hx e; have := hlo x hx; simp only at e; omega)
  · exact up_set (up_set HW.out ⟨w.heap.size, 0, none⟩ _ (Nat.le_refl _)) ⟨w.heap.size, 1, none⟩ _ (Nat.le_refl _)

theorem sameTexts_same (u v : Value) (xs : List (List UInt8)) (w : World) (hu : RdL w 1 strC u xs) (hv : RdL w 1 strC v xs) :
    Calls Tryz.prog 34 #[u, v] w fun e w' => e = .returned (.bool true) ∧ Below w.heap.size w w' := by
  obtain ⟨A, c, rfl, hm, _⟩ := hu.form
  obtain ⟨B, d, rfl, _, _⟩ := hv.form
  unfold maxLen at hm
  go_enter Tryz.func34, Tryz.ntmps34
  go_wp2_with fail
  go_loopw [5] (fun i wr => ∃ k : Nat, k ≤ xs.length ∧ i = .int .i64 k ∧ Below w.heap.size w wr) (fun i _ => xs.length - (intOf i).toNat)
  case atStart => exact ⟨0, Nat.zero_le _, rfl, Below.refl _ _⟩
  case round =>
    obtain ⟨k, hk, rfl, hW⟩ := hrel
    by_cases hlt : k < xs.length
    · have i1 : (0 : Int) ≤ (k : Int) := by omega
      have i2 : (k : Int) < (xs.length : Int) := by omega
      obtain ⟨b, o, rfl, hb, hc⟩ := (hu.up hW).cells strC_len hlt
      obtain ⟨b', o', rfl, hb', hc'⟩ := (hv.up hW).cells strC_len hlt
      have c0 := hc 0 _ rfl
      have d0 := hc' 0 _ rfl
      simp only [Nat.mul_one, Nat.add_zero] at c0 d0
      clear hc hc'
      obtain ⟨x, hx⟩ : ∃ x, x = xs[k] := ⟨_, rfl⟩
      rw [← hx] at c0 d0
      clear hx
      go_wp2_with fail
      go_quiet (fail)
      go_wp2_with fail
      go_roundw
      case rel => exact ⟨k + 1, by omega, by go_num, by (repeat (first | exact Below.refl _ _ | assumption | refine Below.drew ?_ | refine up_drewN ?_ _ | refine up_alloc ?_ _ | refine up_set ?_ _ _ (by first | exact Nat.le_refl _ | (simp; done) | (simp; omega) | omega) | refine up_trans ?_ (by assumption)))⟩
      case measure => simp [intOf]; omega
    · go_wp2_with fail
      go_ret
      exact ⟨rfl, hW⟩

theorem specValid_yes (v : Value) (ms : List Mo) (a : Int) (s : List UInt8) (o : List (List UInt8)) (w : World) (h : RdM w v ms) (hg : HGood ms a s o) :
    Calls Tryz.prog 35 #[.agg #[v, .int .i64 a], S s] w fun e w' => e = .returned (.bool true) ∧ Below w.heap.size w w' :=
  (specHistoryValid_any v ms a s w h (by have := hg.n30; omega) (by have := tv_len hg.t; unfold maxLen; omega)).mono fun e w' ⟨ok, he, hh, hb⟩ => ⟨by rw [he, hh.2 ⟨o, hg⟩], hb⟩
theorem specValid_no (v : Value) (ms : List Mo) (a : Int) (s : List UInt8) (w : World) (h : RdM w v ms) (hn : ms.length ≤ 30) (hs : s.length ≤ 130) (hg : ¬ ∃ o, HGood ms a s o) :
    Calls Tryz.prog 35 #[.agg #[v, .int .i64 a], S s] w fun e w' => e = .returned (.bool false) ∧ Below w.heap.size w w' :=
  (specHistoryValid_any v ms a s w h (by omega) (by unfold maxLen; omega)).mono fun e w' ⟨ok, he, hh, hb⟩ => ⟨by
    rw [he]
    rcases ok with _ | _
    · rfl
    · exact absurd (hh.1 rfl) hg, hb⟩
theorem hrF_mem (ms : List Mo) : ∀ (n : Nat) (k : Int), ∀ r ∈ hrF ms n k, ∃ a b p, r = recT a b p
  | 0, _, r, h => by simp [hrF] at h
  | n + 1, k, r, h => by
    rw [hrF] at h
    split at h
    · rw [List.mem_append, List.mem_singleton] at h
      rcases h with h | h
      · exact hrF_mem ms n _ r h
      · exact ⟨_, _, _, h⟩
    · simp at h
theorem rec_short (a b : Int) (p : List UInt8) : (recT a b p).length ≤ 252 := by
  unfold recT
  split
  · rename_i hk
    unfold recOk at hk
    simp only [Bool.and_eq_true, inB_iff] at hk
    exact (recX_len (by omega) (by omega) (tv_len hk.2)).2
  · simp
/-- what the law compares. -/
theorem hr_law {ms : List Mo} {k : Nat} {s : List UInt8} {o : List (List UInt8)} (h : HGood ms (k : Int) s o) :
    plS (o.getD 0 []) (hrR ms k) = s ∧ plN (o.getD 0 []) (hrR ms k) = ((hrR ms k).length : Nat) ∧ (hrR ms k).length < ms.length := by
  have h1 := h.a1
  have hk : k < ms.length := by omega
  have hp := hrF_play h ms.length k (by omega) hk
  have h30 : (hrR ms k).length ≤ 30 := by have := h.n30; have := hp.2; unfold hrR; omega
  have hs := h.at_
  simp only [Int.toNat_natCast] at hs
  unfold plS plN
  rw [if_pos ⟨h.first, h30⟩, if_pos ⟨h.first, h30⟩]
  unfold hrR
  rw [hp.1]
  exact ⟨hs, rfl, Nat.lt_of_le_of_lt hp.2 hk⟩

set_option maxRecDepth 100000 in
set_option maxHeartbeats 4000000 in
theorem historyRecords_walk (v : Value) (n : Nat) (zs : List Int) (w : World) (h : Bytes w w.heap.size v n zs) (hL : LW w) :
    Calls Tryz.prog 9 #[v] w fun e w' => e = .returned (.bool true) ∧ Below w.heap.size w w' := by
  have h' := h
  obtain ⟨h1, h2, A0, c0', rfl, h3, h4, h5⟩ := h
  clear h5 h2 h1 h4
  by_cases hn : n ≤ 1048576
  case neg =>
    go_enter Tryz.func9, Tryz.ntmps9
    go_wp2_with fail
    go_ret
    exact ⟨rfl, Below.refl _ _⟩
  have HL := Lib.hid hL
  clear hL
  have hW := Below.refl w.heap.size w
  go_enter Tryz.func9, Tryz.ntmps9
  go_wp2_with fail
  refine (drawHistoryRecords_any _ n zs _ (h'.to (by (repeat (first | exact Below.refl _ _ | assumption | refine Below.drew ?_ | refine up_drewN ?_ _ | refine up_alloc ?_ _ | refine up_set ?_ _ _ (by first | exact Nat.le_refl _ | (simp; done) | (simp; omega) | omega) | refine up_trans ?_ (by assumption)))))).mono ?_
  rintro e w1 ⟨hv, ms, a, s, rfl, H, hl, hs, hb⟩
  have hB : Below w.heap.size w w1 := (by (repeat (first | exact Below.refl _ _ | assumption | refine Below.drew ?_ | refine up_drewN ?_ _ | refine up_alloc ?_ _ | refine up_set ?_ _ _ (by first | exact Nat.le_refl _ | (simp; done) | (simp; omega) | omega) | refine up_trans ?_ (by assumption)))); have sw1 := hB.size; replace hW := up_trans hW hB; clear hB
  obtain ⟨A, c, rfl, -, -⟩ := H.1.form
  have HH := Lib.hid H
  clear hb h' H
  by_cases hg : ∃ o, HGood ms a s o
  · obtain ⟨o, hg⟩ := hg
    obtain ⟨k, rfl⟩ : ∃ k : Nat, a = k := ⟨a.toNat, by have := hg.a0; omega⟩
    obtain ⟨l1, l2, l3⟩ := hr_law hg
    have hrl : ∀ r ∈ hrR ms k, r.length ≤ 1048576 := fun r hr => by
      obtain ⟨x, y, p, rfl⟩ := hrF_mem ms _ _ r hr
      exact Nat.le_trans (rec_short x y p) (by omega)
    have h0 := hg.first
    have h0l := tv_len h0
    have P1 := Lib.hid (fun v w hv hw => implPlay_any (o.getD 0 []) v (hrR ms k) w (by omega) hv hrl hw)
    have I1 := Lib.hid (fun v w hv hw => implHr_yes v ms k s w o hv hg hw)
    have S1 := Lib.hid (fun v w hv => specHr_yes v ms k s w o hv hg)
    have V1 := Lib.hid (fun v w hv => specValid_yes v ms k s o w hv hg)
    have T1 := Lib.hid (fun v w hv => implHistoryTo_yes v ms k s 0 w o hv hg)
    have ht : toText ms.length o s 0 = o.getD 0 [] := by
      have := hg.n1
      unfold toText
      rw [show inB 0 0 ((ms.length : Int) - 1) = true from inB_iff.2 ⟨by omega, by omega⟩, if_pos rfl]
      rfl
    rw [ht] at T1
    rw [l1, l2] at P1
    generalize toAt ms.length (k : Int) 0 = p1 at T1
    generalize inB 0 0 ((ms.length : Int) - 1) = ok1 at T1
    generalize o.getD 0 [] = f0 at *
    generalize hrR ms k = rs at *
    have l4 : (rs.length : Int) < (ms.length : Int) := by omega
    clear ht hrl l1 l2 hg h0 h0l
    go_wp2_with fail
    refine (I1.out _ _ (HH.out.up (by (repeat (first | exact Below.refl _ _ | assumption | refine Below.drew ?_ | refine up_drewN ?_ _ | refine up_alloc ?_ _ | refine up_set ?_ _ _ (by first | exact Nat.le_refl _ | (simp; done) | (simp; omega) | omega) | refine up_trans ?_ (by assumption))))) (HL.out.lt.up (by (repeat (first | exact Below.refl _ _ | assumption | refine Below.drew ?_ | refine up_drewN ?_ _ | refine up_alloc ?_ _ | refine up_set ?_ _ _ (by first | exact Nat.le_refl _ | (simp; done) | (simp; omega) | omega) | refine up_trans ?_ (by assumption)))))).mono ?_
    rintro e w2 ⟨xv, rfl, ho2, hb⟩
    have hc : ∀ o, w2.cell? ⟨w1.heap.size, o, none⟩ = #[.slice A ms.length c, .int .i64 k][o]? := (fun o => (hb.cell (p := ⟨w1.heap.size, o, none⟩) (by simp <;> omega)).trans (by simp [go_sem])); have hf : ∀ o, w2.frozen? ⟨w1.heap.size, o, none⟩ = false := (fun o => (hb.frozen (p := ⟨w1.heap.size, o, none⟩) (by simp <;> omega)).trans (by simp [go_sem])); have hz : w1.heap.size < w2.heap.size := (by have := hb.size; (try simp at this); omega); have hy := hz
    replace HH := Lib.hid (HH.out.up (show Below w1.heap.size w1 w2 by (repeat (first | exact Below.refl _ _ | assumption | refine Below.drew ?_ | refine up_drewN ?_ _ | refine up_alloc ?_ _ | refine up_set ?_ _ _ (by first | exact Nat.le_refl _ | (simp; done) | (simp; omega) | omega) | refine up_trans ?_ (by assumption)))))
    have hB : Below w1.heap.size w1 w2 := (by (repeat (first | exact Below.refl _ _ | assumption | refine Below.drew ?_ | refine up_drewN ?_ _ | refine up_alloc ?_ _ | refine up_set ?_ _ _ (by first | exact Nat.le_refl _ | (simp; done) | (simp; omega) | omega) | refine up_trans ?_ (by assumption)))); have sw2 := hB.size; replace hW := up_trans hW hB; clear hB
    have RX := Lib.hid (RdL.of_own (f := strC) (bs := rs) ho2)
    obtain ⟨XA, XC, rfl, -, -⟩ := (RdL.of_own (f := strC) (bs := rs) ho2).form
    clear hb ho2
    go_wp2_with fail
    refine (S1.out _ _ (HH.out.up (by (repeat (first | exact Below.refl _ _ | assumption | refine Below.drew ?_ | refine up_drewN ?_ _ | refine up_alloc ?_ _ | refine up_set ?_ _ _ (by first | exact Nat.le_refl _ | (simp; done) | (simp; omega) | omega) | refine up_trans ?_ (by assumption)))))).mono ?_
    rintro e w3 ⟨yv, rfl, ho3, hb⟩
    have hB3 : Below w2.heap.size w2 w3 := by (repeat (first | exact Below.refl _ _ | assumption | refine Below.drew ?_ | refine up_drewN ?_ _ | refine up_alloc ?_ _ | refine up_set ?_ _ _ (by first | exact Nat.le_refl _ | (simp; done) | (simp; omega) | omega) | refine up_trans ?_ (by assumption)))
    replace HH := Lib.hid (HH.out.up hB3)
    replace RX := Lib.hid (RX.out.up hB3)
    have hB : Below w2.heap.size w2 w3 := (by (repeat (first | exact Below.refl _ _ | assumption | refine Below.drew ?_ | refine up_drewN ?_ _ | refine up_alloc ?_ _ | refine up_set ?_ _ _ (by first | exact Nat.le_refl _ | (simp; done) | (simp; omega) | omega) | refine up_trans ?_ (by assumption)))); replace hc := up_c hB hz hc; replace hf := up_f hB hz hf; replace hz := Nat.lt_of_lt_of_le hz hB.size; have sw3 := hB.size; replace hW := up_trans hW hB; clear hB
    have RY := Lib.hid (RdL.of_own (f := strC) (bs := rs) ho3)
    obtain ⟨YA, YC, rfl, -, -⟩ := (RdL.of_own (f := strC) (bs := rs) ho3).form
    clear hb ho3 hB3
    go_wp2_with fail
    refine (sameTexts_same _ _ rs _ RX.out RY.out).mono ?_
    rintro e w4 ⟨rfl, hb⟩
    replace HH := Lib.hid (HH.out.up hb)
    replace RX := Lib.hid (RX.out.up hb)
    have hB : Below w3.heap.size w3 w4 := (by (repeat (first | exact Below.refl _ _ | assumption | refine Below.drew ?_ | refine up_drewN ?_ _ | refine up_alloc ?_ _ | refine up_set ?_ _ _ (by first | exact Nat.le_refl _ | (simp; done) | (simp; omega) | omega) | refine up_trans ?_ (by assumption)))); replace hc := up_c hB hz hc; replace hf := up_f hB hz hf; replace hz := Nat.lt_of_lt_of_le hz hB.size; have sw4 := hB.size; replace hW := up_trans hW hB; clear hB
    clear hb RY
    go_wp2_with fail
    refine (V1.out _ _ HH.out).mono ?_
    rintro e w5 ⟨rfl, hb⟩
    replace HH := Lib.hid (HH.out.up hb)
    replace RX := Lib.hid (RX.out.up hb)
    have hB : Below w4.heap.size w4 w5 := (by (repeat (first | exact Below.refl _ _ | assumption | refine Below.drew ?_ | refine up_drewN ?_ _ | refine up_alloc ?_ _ | refine up_set ?_ _ _ (by first | exact Nat.le_refl _ | (simp; done) | (simp; omega) | omega) | refine up_trans ?_ (by assumption)))); replace hc := up_c hB hz hc; replace hf := up_f hB hz hf; replace hz := Nat.lt_of_lt_of_le hz hB.size; have sw5 := hB.size; replace hW := up_trans hW hB; clear hB
    clear hb
    go_wp2_with fail
    refine (T1.out _ _ HH.out).mono ?_
    rintro e w6 ⟨zv, rfl, ho6, hb⟩
    obtain ⟨ZA, ZC, rfl, -, -⟩ := (RdL.of_own (f := moC) (bs := ms) ho6).form
    replace RX := Lib.hid (RX.out.up hb)
    have hB : Below w5.heap.size w5 w6 := (by (repeat (first | exact Below.refl _ _ | assumption | refine Below.drew ?_ | refine up_drewN ?_ _ | refine up_alloc ?_ _ | refine up_set ?_ _ _ (by first | exact Nat.le_refl _ | (simp; done) | (simp; omega) | omega) | refine up_trans ?_ (by assumption)))); replace hc := up_c hB hz hc; replace hf := up_f hB hz hf; replace hz := Nat.lt_of_lt_of_le hz hB.size; have sw6 := hB.size; replace hW := up_trans hW hB; clear hB
    clear hb ho6
    go_wp2_with fail
    refine (P1.out _ _ (RX.out.up (by (repeat (first | exact Below.refl _ _ | assumption | refine Below.drew ?_ | refine up_drewN ?_ _ | refine up_alloc ?_ _ | refine up_set ?_ _ _ (by first | exact Nat.le_refl _ | (simp; done) | (simp; omega) | omega) | refine up_trans ?_ (by assumption))))) (HL.out.up (by (repeat (first | exact Below.refl _ _ | assumption | refine Below.drew ?_ | refine up_drewN ?_ _ | refine up_alloc ?_ _ | refine up_set ?_ _ _ (by first | exact Nat.le_refl _ | (simp; done) | (simp; omega) | omega) | refine up_trans ?_ (by assumption)))))).mono ?_
    rintro e w7 ⟨rfl, hb⟩
    have zc : ∀ o, w7.cell? ⟨w6.heap.size, o, none⟩ = #[.slice ZA ms.length ZC, .int .i64 p1][o]? := (fun o => (hb.cell (p := ⟨w6.heap.size, o, none⟩) (by simp <;> omega)).trans (by simp [go_sem])); have zf : ∀ o, w7.frozen? ⟨w6.heap.size, o, none⟩ = false := (fun o => (hb.frozen (p := ⟨w6.heap.size, o, none⟩) (by simp <;> omega)).trans (by simp [go_sem])); have zz : w6.heap.size < w7.heap.size := (by have := hb.size; (try simp at this); omega); have zy := zz
    have hB : Below w6.heap.size w6 w7 := (by (repeat (first | exact Below.refl _ _ | assumption | refine Below.drew ?_ | refine up_drewN ?_ _ | refine up_alloc ?_ _ | refine up_set ?_ _ _ (by first | exact Nat.le_refl _ | (simp; done) | (simp; omega) | omega) | refine up_trans ?_ (by assumption)))); replace hc := up_c hB hz hc; replace hf := up_f hB hz hf; replace hz := Nat.lt_of_lt_of_le hz hB.size; have sw7 := hB.size; replace hW := up_trans hW hB; clear hB
    clear hb
    go_wp2_with fail
    go_ret
    exact ⟨rfl, hW⟩
  · have I1 := Lib.hid (fun v w hv => implHr_no v ms a s w hv (by omega) (by unfold maxLen; omega) hg)
    have S1 := Lib.hid (fun v w hv => specHr_no v ms a s w hv (by omega) (by unfold maxLen; omega) hg)
    have V1 := Lib.hid (fun v w hv => specValid_no v ms a s w hv hl hs hg)
    go_wp2_with fail
    refine (I1.out _ _ (HH.out.up (by (repeat (first | exact Below.refl _ _ | assumption | refine Below.drew ?_ | refine up_drewN ?_ _ | refine up_alloc ?_ _ | refine up_set ?_ _ _ (by first | exact Nat.le_refl _ | (simp; done) | (simp; omega) | omega) | refine up_trans ?_ (by assumption)))))).mono ?_
    rintro e w2 ⟨xv, rfl, ho2, hb⟩
    have hc : ∀ o, w2.cell? ⟨w1.heap.size, o, none⟩ = #[.slice A ms.length c, .int .i64 a][o]? := (fun o => (hb.cell (p := ⟨w1.heap.size, o, none⟩) (by simp <;> omega)).trans (by simp [go_sem])); have hf : ∀ o, w2.frozen? ⟨w1.heap.size, o, none⟩ = false := (fun o => (hb.frozen (p := ⟨w1.heap.size, o, none⟩) (by simp <;> omega)).trans (by simp [go_sem])); have hz : w1.heap.size < w2.heap.size := (by have := hb.size; (try simp at this); omega); have hy := hz
    replace HH := Lib.hid (HH.out.up (show Below w1.heap.size w1 w2 by (repeat (first | exact Below.refl _ _ | assumption | refine Below.drew ?_ | refine up_drewN ?_ _ | refine up_alloc ?_ _ | refine up_set ?_ _ _ (by first | exact Nat.le_refl _ | (simp; done) | (simp; omega) | omega) | refine up_trans ?_ (by assumption)))))
    have hB : Below w1.heap.size w1 w2 := (by (repeat (first | exact Below.refl _ _ | assumption | refine Below.drew ?_ | refine up_drewN ?_ _ | refine up_alloc ?_ _ | refine up_set ?_ _ _ (by first | exact Nat.le_refl _ | (simp; done) | (simp; omega) | omega) | refine up_trans ?_ (by assumption)))); have sw2 := hB.size; replace hW := up_trans hW hB; clear hB
    have RX := Lib.hid (RdL.of_own (f := strC) (bs := []) ho2)
    obtain ⟨XA, XC, rfl, -, -⟩ := (RdL.of_own (f := strC) (bs := []) ho2).form
    clear hb ho2
    go_wp2_with fail
    refine (S1.out _ _ (HH.out.up (by (repeat (first | exact Below.refl _ _ | assumption | refine Below.drew ?_ | refine up_drewN ?_ _ | refine up_alloc ?_ _ | refine up_set ?_ _ _ (by first | exact Nat.le_refl _ | (simp; done) | (simp; omega) | omega) | refine up_trans ?_ (by assumption)))))).mono ?_
    rintro e w3 ⟨yv, rfl, ho3, hb⟩
    have hB3 : Below w2.heap.size w2 w3 := by (repeat (first | exact Below.refl _ _ | assumption | refine Below.drew ?_ | refine up_drewN ?_ _ | refine up_alloc ?_ _ | refine up_set ?_ _ _ (by first | exact Nat.le_refl _ | (simp; done) | (simp; omega) | omega) | refine up_trans ?_ (by assumption)))
    replace HH := Lib.hid (HH.out.up hB3)
    replace RX := Lib.hid (RX.out.up hB3)
    have hB : Below w2.heap.size w2 w3 := (by (repeat (first | exact Below.refl _ _ | assumption | refine Below.drew ?_ | refine up_drewN ?_ _ | refine up_alloc ?_ _ | refine up_set ?_ _ _ (by first | exact Nat.le_refl _ | (simp; done) | (simp; omega) | omega) | refine up_trans ?_ (by assumption)))); replace hc := up_c hB hz hc; replace hf := up_f hB hz hf; replace hz := Nat.lt_of_lt_of_le hz hB.size; have sw3 := hB.size; replace hW := up_trans hW hB; clear hB
    have RY := Lib.hid (RdL.of_own (f := strC) (bs := []) ho3)
    obtain ⟨YA, YC, rfl, -, -⟩ := (RdL.of_own (f := strC) (bs := []) ho3).form
    clear hb ho3 hB3
    go_wp2_with fail
    refine (sameTexts_same _ _ [] _ RX.out RY.out).mono ?_
    rintro e w4 ⟨rfl, hb⟩
    replace HH := Lib.hid (HH.out.up hb)
    have hB : Below w3.heap.size w3 w4 := (by (repeat (first | exact Below.refl _ _ | assumption | refine Below.drew ?_ | refine up_drewN ?_ _ | refine up_alloc ?_ _ | refine up_set ?_ _ _ (by first | exact Nat.le_refl _ | (simp; done) | (simp; omega) | omega) | refine up_trans ?_ (by assumption)))); replace hc := up_c hB hz hc; replace hf := up_f hB hz hf; replace hz := Nat.lt_of_lt_of_le hz hB.size; have sw4 := hB.size; replace hW := up_trans hW hB; clear hB
    clear hb RY RX
    go_wp2_with fail
    refine (V1.out _ _ HH.out).mono ?_
    rintro e w5 ⟨rfl, hb⟩
    have hB : Below w4.heap.size w4 w5 := (by (repeat (first | exact Below.refl _ _ | assumption | refine Below.drew ?_ | refine up_drewN ?_ _ | refine up_alloc ?_ _ | refine up_set ?_ _ _ (by first | exact Nat.le_refl _ | (simp; done) | (simp; omega) | omega) | refine up_trans ?_ (by assumption)))); replace hc := up_c hB hz hc; replace hf := up_f hB hz hf; replace hz := Nat.lt_of_lt_of_le hz hB.size; have sw5 := hB.size; replace hW := up_trans hW hB; clear hB
    clear hb
    go_wp2_with fail
    refine (alive_any _).mono ?_
    rintro e w6 ⟨rfl, rfl⟩
    go_wp2_with fail
    go_ret
    exact ⟨rfl, hW⟩

end Go.Proofs.YtdngdlcibaiekaaGreatDoor
