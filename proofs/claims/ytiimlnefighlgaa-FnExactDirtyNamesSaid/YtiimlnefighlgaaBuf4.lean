/- What is proved here: contracts of toBufferS and eqBufferS. No condition. -/
import Derived.Test.YtiimlnefighlgaaBuf3
namespace Go.Proofs.Ytiimlnefighlgaa
open Go.RowKit

theorem buf_info : (Try.prog.info? 70).map (fun i => (i.zero, i.size, i.bytes)) = some (some (.agg #[S [], S [], S []]), 3, 48) := by kernel_rfl

theorem set3 (a b : List Value) (u0 u1 u2 : Value) (k : Nat) (h : a.length = k) (hb : 3 ≤ b.length) : (((a ++ b).set k u0).set (k + 1) u1).set (k + 2) u2 = a ++ [u0, u1, u2] ++ b.drop 3 := by
  subst h
  obtain ⟨b0, b, rfl⟩ : ∃ x y, b = x :: y := by cases b with | nil => simp at hb | cons x y => exact ⟨x, y, rfl⟩
  obtain ⟨b1, b, rfl⟩ : ∃ x y, b = x :: y := by cases b with | nil => simp at hb | cons x y => exact ⟨x, y, rfl⟩
  obtain ⟨b2, b, rfl⟩ : ∃ x y, b = x :: y := by cases b with | nil => simp at hb | cons x y => exact ⟨x, y, rfl⟩
  simp

theorem own_set3 {w : World} {base : Nat} {e : TypeId} {g n cap k : Nat} {a b : List Value} (h : Own w base e 3 (.slice (some ⟨g, 0, none⟩) n cap) n (a ++ b)) (ha : a.length = k * 3) (hk : k < n) (u0 u1 u2 : Value) :
    Own (((w.setCell ⟨g, k * 3, none⟩ u0).setCell ⟨g, k * 3 + 1, none⟩ u1).setCell ⟨g, k * 3 + 2, none⟩ u2) base e 3 (.slice (some ⟨g, 0, none⟩) n cap) n (a ++ [u0, u1, u2] ++ b.drop 3) := by
  have h1 := (h.stored (k * 3) u0).1
  have h2 := (h1.stored (k * 3 + 1) u1).1
  have h3 := (h2.stored (k * 3 + 2) u2).1
  rw [set3 a b u0 u1 u2 (k * 3) ha (by have := h.1; rw [List.length_append] at this; omega)] at h3
  exact h3
theorem own_some {w : World} {base : Nat} {e : TypeId} {size g n cap j : Nat} {xs : List Value} (h : Own w base e size (.slice (some ⟨g, 0, none⟩) n cap) n xs) (hj : j < n * size) : ∃ u, w.cell? ⟨g, j, none⟩ = some u := by
  rw [h.cellAt j hj]
  exact ⟨_, List.getElem?_eq_getElem (by rw [h.1]; exact hj)⟩

def ToPost (bs : List Bf) (w : World) (e : Ending) (w' : World) : Prop := ∃ v, e = .returned v ∧ Own w' w.heap.size 70 3 v bs.length (bs.flatMap bfC) ∧ Below w.heap.size w w'

set_option maxHeartbeats 800000 in
theorem toBufferS_any (v : Value) (bs : List Bf) (w : World) (h : RdB w v bs) (hn : bs.length ≤ 1048576) :
    Calls Try.prog 30 #[v] w (ToPost bs w) := by
  obtain ⟨A, c, rfl, _, _⟩ := h.1.form
  obtain ⟨i0, hi, hz0, hz1, hz2⟩ := info_parts buf_info
  go_enter Try.func30, Try.ntmps30
  go_wp2_with (at_make; refine wpList_make_full _ rfl _ _ 38 rfl w.heap.size 70 i0 _ 3 Try.underlying38 hi hz0 hz1 _ _ _ _ bs.length rfl rfl rfl rfl (by rw [hz2]; omega) (by unfold maxLen; omega) (Nat.le_refl _) ?_; intro w1 how hgr)
  have hW : Below w.heap.size w w1 := up_grown (Below.refl _ _) hgr (fun k hk => by cases hk)
  obtain ⟨ys, hys⟩ : ∃ ys, ys = (madeCells (Value.agg #[S [], S [], S []]).cells (bs.length * 3)).toList := ⟨_, rfl⟩
  rw [← hys] at how
  clear hys hgr hi hz0 hz1 hz2
  have HL := Lib.hid how.1
  have How := Lib.hid how
  clear how
  go_loopw [4] (fun i wr => ∃ k : Nat, k ≤ bs.length ∧ i = .int .i64 k ∧ Own wr w.heap.size 70 3 (.slice (some ⟨w.heap.size, 0, none⟩) bs.length bs.length) bs.length ((bs.take k).flatMap bfC ++ ys.drop (k * 3)) ∧ Below w.heap.size w wr) (fun i _ => bs.length - (intOf i).toNat)
  case atStart => exact ⟨0, Nat.zero_le _, rfl, by simpa using How.out, hW⟩
  case round =>
    obtain ⟨k, hk, rfl, how, hWr⟩ := hrel
    clear hW How
    by_cases hlt : k < bs.length
    · have i1 : (0 : Int) ≤ (k : Int) := by omega
      have i2 : (k : Int) < (bs.length : Int) := by omega
      obtain ⟨b, o, rfl, hb, c0, c1, c2⟩ := (h.up hWr).cells hlt
      have hts := Lib.hid (show (bs.take (k + 1)).flatMap bfC = (bs.take k).flatMap bfC ++ bfC bs[k] by rw [List.take_succ_eq_append_getElem hlt, List.flatMap_append]; simp)
      obtain ⟨x, hx⟩ : ∃ x, x = bs[k] := ⟨_, rfl⟩
      rw [← hx] at c0 c1 c2
      have HX := Lib.hid hx
      clear hx
      have How := Lib.hid how
      clear how
      go_wp2_with fail
      refine (toBuffer_any x _).mono ?_
      rintro e w2 ⟨rfl, hb2⟩
      have how := own_up How.out hb2
      obtain ⟨u0, d0⟩ := own_some how (show k * 3 < bs.length * 3 by omega)
      obtain ⟨u1, d1⟩ := own_some how (show k * 3 + 1 < bs.length * 3 by omega)
      obtain ⟨u2, d2⟩ := own_some how (show k * 3 + 2 < bs.length * 3 by omega)
      have f0 := how.frozenAt (k * 3)
      have f1 := how.frozenAt (k * 3 + 1)
      have f2 := how.frozenAt (k * 3 + 2)
      have HS := Lib.hid (own_set3 how (by rw [flat_len bfC 3 bfC_len, List.length_take]; omega) hlt (S x.name) (S x.body) (S x.saved))
      clear how
      have hW2 : Below w.heap.size w w2 := by (repeat (first | exact Below.refl _ _ | assumption | refine Below.drew ?_ | refine up_drewN ?_ _ | refine up_alloc ?_ _ | refine up_set ?_ _ _ (by first | exact Nat.le_refl _ | (simp; done) | (simp; omega) | omega) | refine up_trans ?_ (by assumption)))
      clear hb2 hWr
      go_wp2_with fail
      go_roundw
      case rel =>
        refine ⟨k + 1, by omega, by go_num, ?_, by (repeat (first | exact Below.refl _ _ | assumption | refine Below.drew ?_ | refine up_drewN ?_ _ | refine up_alloc ?_ _ | refine up_set ?_ _ _ (by first | exact Nat.le_refl _ | (simp; done) | (simp; omega) | omega) | refine up_trans ?_ (by assumption)))⟩
        have := HS.out
        rw [List.drop_drop] at this
        rw [hts.out, ← HX.out, show (k + 1) * 3 = k * 3 + 3 by omega]
        exact this
      case measure => simp [intOf]; omega
    · obtain rfl : k = bs.length := by omega
      have How := Lib.hid how
      clear how
      go_wp2_with fail
      go_ret
      refine ⟨_, rfl, ?_, hWr⟩
      have := How.out
      rwa [List.take_length, List.drop_of_length_le (by rw [HL.out]; exact Nat.le_refl _), List.append_nil] at this

theorem eqBuffer_same (x : Bf) (w : World) :
    Calls Try.prog 63 #[.agg #[S x.name, S x.body, S x.saved], .agg #[S x.name, S x.body, S x.saved]] w fun e w' => e = .returned (.bool true) ∧ Below w.heap.size w w' := by
  go_enter Try.func63, Try.ntmps63
  go_wp2_with fail
  go_ret
  exact ⟨rfl, by (repeat (first | exact Below.refl _ _ | assumption | refine Below.drew ?_ | refine up_drewN ?_ _ | refine up_alloc ?_ _ | refine up_set ?_ _ _ (by first | exact Nat.le_refl _ | (simp; done) | (simp; omega) | omega) | refine up_trans ?_ (by assumption)))⟩

theorem eqBufferS_same (u v : Value) (bs : List Bf) (w : World) (hu : RdL w 3 bfC u bs) (hv : RdL w 3 bfC v bs) :
    Calls Try.prog 32 #[u, v] w fun e w' => e = .returned (.bool true) ∧ Below w.heap.size w w' := by
  obtain ⟨A, c, rfl, hm, _⟩ := hu.form
  obtain ⟨B, d, rfl, _, _⟩ := hv.form
  unfold maxLen at hm
  go_enter Try.func32, Try.ntmps32
  go_wp2_with fail
  go_loopw [5] (fun i wr => ∃ k : Nat, k ≤ bs.length ∧ i = .int .i64 k ∧ Below w.heap.size w wr) (fun i _ => bs.length - (intOf i).toNat)
  case atStart => exact ⟨0, Nat.zero_le _, rfl, Below.refl _ _⟩
  case round =>
    obtain ⟨k, hk, rfl, hW⟩ := hrel
    by_cases hlt : k < bs.length
    · have i1 : (0 : Int) ≤ (k : Int) := by omega
      have i2 : (k : Int) < (bs.length : Int) := by omega
      obtain ⟨b, o, rfl, hb, hc⟩ := (hu.up hW).cells bfC_len hlt
      obtain ⟨b', o', rfl, hb', hc'⟩ := (hv.up hW).cells bfC_len hlt
      have c0 := hc 0 _ rfl
      have c1 := hc 1 _ rfl
      have c2 := hc 2 _ rfl
      have d0 := hc' 0 _ rfl
      have d1 := hc' 1 _ rfl
      have d2 := hc' 2 _ rfl
      simp only [Nat.add_zero] at c0 d0
      clear hc hc'
      obtain ⟨x, hx⟩ : ∃ x, x = bs[k] := ⟨_, rfl⟩
      rw [← hx] at c0 c1 c2 d0 d1 d2
      clear hx
      have hne := UpW.nonempty wr
      have C1 := Lib.hid (fun y : UpW wr => calls_up (eqBuffer_same x (y.at wr)))
      go_wp2_with fail
      refine wp_region_up_lit (by kernel_rfl) (by kernel_rfl) ?_
      repeat (go_big_quiet_step ((go_at_call 63; exact C1.out _)))
      refine wpQuiet_nil ?_
      intro w2 hb2
      replace hb2 := UpW.out hb2
      go_wp2_with fail
      go_roundw
      case rel => exact ⟨k + 1, by omega, by go_num, by (repeat (first | exact Below.refl _ _ | assumption | refine Below.drew ?_ | refine up_drewN ?_ _ | refine up_alloc ?_ _ | refine up_set ?_ _ _ (by first | exact Nat.le_refl _ | (simp; done) | (simp; omega) | omega) | refine up_trans ?_ (by assumption)))⟩
      case measure => simp [intOf]; omega
    · go_wp2_with fail
      go_ret
      exact ⟨rfl, hW⟩

end Go.Proofs.Ytiimlnefighlgaa
