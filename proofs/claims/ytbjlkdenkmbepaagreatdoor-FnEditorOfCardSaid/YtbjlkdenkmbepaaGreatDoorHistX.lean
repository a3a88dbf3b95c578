/- What is proved here: contracts of toMoment and toMomentS. No condition. -/
import Derived.Test.YtbjlkdenkmbepaaGreatDoorHistS
namespace Go.Proofs.YtbjlkdenkmbepaaGreatDoor
open Go.RowKit
set_option linter.unusedVariables false

set_option maxRecDepth 100000 in
set_option maxHeartbeats 1000000 in
theorem toMoment_any (m : Mo) (w : World) :
    Calls Tryz.prog 142 #[moAgg m] w fun e w' => e = .returned (moAgg m) ∧ Below w.heap.size w w' := by
  obtain ⟨p, ⟨fa, fc, fp⟩, ⟨ba, bc, bp⟩⟩ := m
  have C := Lib.hid (fun (a c : Int) (p : List UInt8) (w : World) => toChange_any a c p w)
  unfold chV at C
  unfold moAgg
  go_enter Tryz.func142, Tryz.ntmps142
  go_wp2_with fail
  refine (C.out _ _ _ _).mono ?_
  rintro e w1 ⟨rfl, hb⟩
  have xc : ∀ o, w1.cell? ⟨w.heap.size, o, none⟩ = #[.int .i64 p, .int .i64 fa, .int .i64 fc, S fp, .int .i64 ba, .int .i64 bc, S bp][o]? := (fun o => (hb.cell (p := ⟨w.heap.size, o, none⟩) (by simp <;> omega)).trans (by simp [go_sem])); have xf : ∀ o, w1.frozen? ⟨w.heap.size, o, none⟩ = false := (fun o => (hb.frozen (p := ⟨w.heap.size, o, none⟩) (by simp <;> omega)).trans (by simp [go_sem])); have xz : w.heap.size < w1.heap.size := (by have := hb.size; (try simp at this); omega); have xy := xz
  have yc : ∀ o, w1.cell? ⟨w.heap.size + 1, o, none⟩ = #[.int .i64 0, .int .i64 0, .int .i64 0, S [], .int .i64 0, .int .i64 0, S []][o]? := (fun o => (hb.cell (p := ⟨w.heap.size + 1, o, none⟩) (by simp <;> omega)).trans (by simp [go_sem])); have yf : ∀ o, w1.frozen? ⟨w.heap.size + 1, o, none⟩ = false := (fun o => (hb.frozen (p := ⟨w.heap.size + 1, o, none⟩) (by simp <;> omega)).trans (by simp [go_sem])); have yz : w.heap.size + 1 < w1.heap.size := (by have := hb.size; (try simp at this); omega); have yy := yz
  have zc : ∀ o, w1.cell? ⟨w.heap.size + 2, o, none⟩ = #[.int .i64 p, .int .i64 0, .int .i64 0, S [], .int .i64 0, .int .i64 0, S []][o]? := (fun o => (hb.cell (p := ⟨w.heap.size + 2, o, none⟩) (by simp <;> omega)).trans (by simp [go_sem])); have zf : ∀ o, w1.frozen? ⟨w.heap.size + 2, o, none⟩ = false := (fun o => (hb.frozen (p := ⟨w.heap.size + 2, o, none⟩) (by simp <;> omega)).trans (by simp [go_sem])); have zz : w.heap.size + 2 < w1.heap.size := (by have := hb.size; (try simp at this); omega); have zy := zz
  have hW : Below w.heap.size w w1 := by (repeat (first | exact Below.refl _ _ | assumption | refine Below.drew ?_ | refine up_drewN ?_ _ | refine up_alloc ?_ _ | refine up_set ?_ _ _ (by first | exact Nat.le_refl _ | (simp; done) | (simp; omega) | omega) | refine up_trans ?_ (by assumption)))
  clear hb xy yy zy
  go_wp2_with fail
  refine (C.out _ _ _ _).mono ?_
  rintro e w2 ⟨rfl, hb⟩
  have sz1 := hb.size
  simp at sz1
  have zc2 := up_c (b := w.heap.size + 2) (A := #[.int .i64 p, .int .i64 fa, .int .i64 fc, S fp, .int .i64 0, .int .i64 0, S []]) hb (by simp; omega) (fun o => by rcases o with _ | _ | _ | _ | _ | _ | _ | o <;> simp [go_sem, zc])
  have zf2 := up_f (b := w.heap.size + 2) hb (by simp; omega) (fun o => by simp [go_sem, zf])
  have yc2 := up_c (b := w.heap.size + 1) (A := #[.int .i64 0, .int .i64 0, .int .i64 0, S [], .int .i64 0, .int .i64 0, S []]) hb (by simp; omega) (fun o => by simp [go_sem, yc])
  have yf2 := up_f (b := w.heap.size + 1) hb (by simp; omega) (fun o => by simp [go_sem, yf])
  have hW2 : Below w.heap.size w w2 := by (repeat (first | exact Below.refl _ _ | assumption | refine Below.drew ?_ | refine up_drewN ?_ _ | refine up_alloc ?_ _ | refine up_set ?_ _ _ (by first | exact Nat.le_refl _ | (simp; done) | (simp; omega) | omega) | refine up_trans ?_ (by assumption)))
  clear hb xc xf yc yf zc zf hW
  go_wp2_with fail
  refine bodyPost_ret (v := .agg #[.int .i64 p, .int .i64 fa, .int .i64 fc, S fp, .int .i64 ba, .int .i64 bc, S bp]) (by simp [results, Tryz.results142, go_sem, yc2]) rfl ⟨rfl, by (repeat refine up_set ?_ _ _ (by first | exact Nat.le_refl _ | (simp; done) | (simp; omega) | omega)); exact hW2⟩

theorem set7 (a b : List Value) (u0 u1 u2 u3 u4 u5 u6 : Value) (k : Nat) (h : a.length = k) (hb : 7 ≤ b.length) : (((((((a ++ b).set k u0).set (k + 1) u1).set (k + 2) u2).set (k + 3) u3).set (k + 4) u4).set (k + 5) u5).set (k + 6) u6 = a ++ [u0, u1, u2, u3, u4, u5, u6] ++ b.drop 7 := by
  subst h
  obtain ⟨b0, b, rfl⟩ : ∃ x y, b = x :: y := by cases b with | nil => simp at hb | cons x y => exact ⟨x, y, rfl⟩
  obtain ⟨b1, b, rfl⟩ : ∃ x y, b = x :: y := by cases b with | nil => simp at hb | cons x y => exact ⟨x, y, rfl⟩
  obtain ⟨b2, b, rfl⟩ : ∃ x y, b = x :: y := by cases b with | nil => simp at hb | cons x y => exact ⟨x, y, rfl⟩
  obtain ⟨b3, b, rfl⟩ : ∃ x y, b = x :: y := by cases b with | nil => simp at hb | cons x y => exact ⟨x, y, rfl⟩
  obtain ⟨b4, b, rfl⟩ : ∃ x y, b = x :: y := by cases b with | nil => simp at hb | cons x y => exact ⟨x, y, rfl⟩
  obtain ⟨b5, b, rfl⟩ : ∃ x y, b = x :: y := by cases b with | nil => simp at hb | cons x y => exact ⟨x, y, rfl⟩
  obtain ⟨b6, b, rfl⟩ : ∃ x y, b = x :: y := by cases b with | nil => simp at hb | cons x y => exact ⟨x, y, rfl⟩
  simp
theorem own_set7 {w : World} {base : Nat} {e : TypeId} {g n cap k : Nat} {a b : List Value} (h : Own w base e 7 (.slice (some ⟨g, 0, none⟩) n cap) n (a ++ b)) (ha : a.length = k * 7) (hk : k < n) (u0 u1 u2 u3 u4 u5 u6 : Value) :
    Own (((((((w.setCell ⟨g, k * 7, none⟩ u0).setCell ⟨g, k * 7 + 1, none⟩ u1).setCell ⟨g, k * 7 + 2, none⟩ u2).setCell ⟨g, k * 7 + 3, none⟩ u3).setCell ⟨g, k * 7 + 4, none⟩ u4).setCell ⟨g, k * 7 + 5, none⟩ u5).setCell ⟨g, k * 7 + 6, none⟩ u6) base e 7 (.slice (some ⟨g, 0, none⟩) n cap) n (a ++ [u0, u1, u2, u3, u4, u5, u6] ++ b.drop 7) := by
  have h1 := (h.stored (k * 7) u0).1
  have h2 := (h1.stored (k * 7 + 1) u1).1
  have h3 := (h2.stored (k * 7 + 2) u2).1
  have h4 := (h3.stored (k * 7 + 3) u3).1
  have h5 := (h4.stored (k * 7 + 4) u4).1
  have h6 := (h5.stored (k * 7 + 5) u5).1
  have h7 := (h6.stored (k * 7 + 6) u6).1
  rw [set7 a b u0 u1 u2 u3 u4 u5 u6 (k * 7) ha (by have := h.1; rw [List.length_append] at this; omega)] at h7
  exact h7
theorem own_someM {w : World} {base : Nat} {e : TypeId} {size g n cap j : Nat} {xs : List Value} (h : Own w base e size (.slice (some ⟨g, 0, none⟩) n cap) n xs) (hj : j < n * size) : ∃ u, w.cell? ⟨g, j, none⟩ = some u := by
  rw [h.cellAt j hj]
  exact ⟨_, List.getElem?_eq_getElem (by rw [h.1]; exact hj)⟩
def ToMPost (ms : List Mo) (w : World) (e : Ending) (w' : World) : Prop := ∃ v, e = .returned v ∧ OwnM w' w.heap.size v ms ∧ Below w.heap.size w w'

set_option maxRecDepth 100000 in
set_option maxHeartbeats 1000000 in
theorem toMomentS_any (v : Value) (ms : List Mo) (w : World) (h : RdM0 w v ms) (hn : ms.length ≤ 1048576) :
    Calls Tryz.prog 106 #[v] w (ToMPost ms w) := by
  obtain ⟨A, c, rfl, _, _⟩ := h.1.form
  obtain ⟨i0, hi, hz0, hz1, hz2⟩ := info_parts mo_info
  go_enter Tryz.func106, Tryz.ntmps106
  go_wp2_with (at_make; refine wpList_make_full _ rfl _ _ 23 rfl w.heap.size 96 i0 _ 7 Tryz.underlying23 hi hz0 hz1 _ _ _ _ ms.length rfl rfl rfl rfl (by rw [hz2]; omega) (by unfold maxLen; omega) (Nat.le_refl _) ?_; intro w1 how hgr)
  have hW : Below w.heap.size w w1 := up_grown (Below.refl _ _) hgr (fun k hk => by cases hk)
  obtain ⟨ys, hys⟩ : ∃ ys, ys = (madeCells (Value.agg #[.int .i64 0, .int .i64 0, .int .i64 0, S [], .int .i64 0, .int .i64 0, S []]).cells (ms.length * 7)).toList := ⟨_, rfl⟩
  rw [← hys] at how
  clear hys hgr hi hz0 hz1 hz2
  have HL := Lib.hid how.1
  have How := Lib.hid how
  clear how
  go_loopw [4] (fun i wr => ∃ k : Nat, k ≤ ms.length ∧ i = .int .i64 k ∧ Own wr w.heap.size 96 7 (.slice (some ⟨w.heap.size, 0, none⟩) ms.length ms.length) ms.length ((ms.take k).flatMap moC ++ ys.drop (k * 7)) ∧ Below w.heap.size w wr) (fun i _ => ms.length - (intOf i).toNat)
  case atStart => exact ⟨0, Nat.zero_le _, rfl, by simpa using How.out, hW⟩
  case round =>
    obtain ⟨k, hk, rfl, how, hWr⟩ := hrel
    clear hW How
    by_cases hlt : k < ms.length
    · have i1 : (0 : Int) ≤ (k : Int) := by omega
      have i2 : (k : Int) < (ms.length : Int) := by omega
      have hts := Lib.hid (show (ms.take (k + 1)).flatMap moC = (ms.take k).flatMap moC ++ moC ms[k] by rw [List.take_succ_eq_append_getElem hlt, List.flatMap_append]; simp)
      obtain ⟨x, hx⟩ : ∃ x, x = ms[k] := ⟨_, rfl⟩
      obtain ⟨b, o, rfl, hb, c0, c1, c2, c3, c4, c5, c6⟩ := (h.up hWr).cells hlt hx.symm
      rw [← hx] at hts
      clear hx
      have TM := Lib.hid (fun w' => toMoment_any x w')
      obtain ⟨p, ⟨fa, fc, fp⟩, ⟨ba, bc, bp⟩⟩ := x
      unfold moAgg at TM
      simp only at c0 c1 c2 c3 c4 c5 c6 TM
      have How := Lib.hid how
      clear how
      go_wp2_with fail
      refine (TM.out _).mono ?_
      rintro e w2 ⟨rfl, hb2⟩
      have how := own_up How.out hb2
      obtain ⟨u0, d0⟩ := own_someM how (show k * 7 < ms.length * 7 by omega)
      obtain ⟨u1, d1⟩ := own_someM how (show k * 7 + 1 < ms.length * 7 by omega)
      obtain ⟨u2, d2⟩ := own_someM how (show k * 7 + 2 < ms.length * 7 by omega)
      obtain ⟨u3, d3⟩ := own_someM how (show k * 7 + 3 < ms.length * 7 by omega)
      obtain ⟨u4, d4⟩ := own_someM how (show k * 7 + 4 < ms.length * 7 by omega)
      obtain ⟨u5, d5⟩ := own_someM how (show k * 7 + 5 < ms.length * 7 by omega)
      obtain ⟨u6, d6⟩ := own_someM how (show k * 7 + 6 < ms.length * 7 by omega)
      have f0 := how.frozenAt (k * 7)
      have f1 := how.frozenAt (k * 7 + 1)
      have f2 := how.frozenAt (k * 7 + 2)
      have f3 := how.frozenAt (k * 7 + 3)
      have f4 := how.frozenAt (k * 7 + 4)
      have f5 := how.frozenAt (k * 7 + 5)
      have f6 := how.frozenAt (k * 7 + 6)
      have HS := Lib.hid (own_set7 how (by rw [flat_len moC 7 moC_len, List.length_take]; omega) hlt (.int .i64 p) (.int .i64 fa) (.int .i64 fc) (S fp) (.int .i64 ba) (.int .i64 bc) (S bp))
      clear how
      have hW2 : Below w.heap.size w w2 := by (repeat (first | exact Below.refl _ _ | assumption | refine Below.drew ?_ | refine up_drewN ?_ _ | refine up_alloc ?_ _ | refine up_set ?_ _ _ (by first | exact Nat.le_refl _ | (simp; done) | (simp; omega) | omega) | refine up_trans ?_ (by assumption)))
      clear hb2 hWr
      go_wp2_with fail
      go_roundw
      case rel =>
        refine ⟨k + 1, by omega, by go_num, ?_, by (repeat refine up_set ?_ _ _ (by first | exact Nat.le_refl _ | (simp; done) | (simp; omega) | omega)); exact hW2⟩
        have := HS.out
        rw [List.drop_drop] at this
        rw [hts.out, show (k + 1) * 7 = k * 7 + 7 by omega]
        exact this
      case measure => simp [intOf]; omega
    · obtain rfl : k = ms.length := by omega
      have How := Lib.hid how
      clear how
      go_wp2_with fail
      go_ret
      refine ⟨_, rfl, ?_, hWr⟩
      have := How.out
      rwa [List.take_length, List.drop_of_length_le (by rw [HL.out]; exact Nat.le_refl _), List.append_nil] at this

end Go.Proofs.YtbjlkdenkmbepaaGreatDoor

