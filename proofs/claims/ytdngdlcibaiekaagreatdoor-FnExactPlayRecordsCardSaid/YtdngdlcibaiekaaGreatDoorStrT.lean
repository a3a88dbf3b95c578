/- What is proved here: contracts of szStringS and toStringS. No condition. -/
import Derived.Test.YtdngdlcibaiekaaGreatDoorStrC
import Derived.Test.YtdngdlcibaiekaaGreatDoorMark
namespace Go.Proofs.YtdngdlcibaiekaaGreatDoor
open Go.RowKit
set_option linter.unusedVariables false

/-- a slice of texts, none longer than a slice can be. -/
def RdS (w : World) (v : Value) (rs : List (List UInt8)) : Prop := RdL w 1 strC v rs ∧ ∀ r ∈ rs, r.length ≤ maxLen
theorem RdS.up {w w' : World} {v : Value} {rs : List (List UInt8)} (h : RdS w v rs) (hb : Below w.heap.size w w') : RdS w' v rs := ⟨RdL.up h.1 hb, h.2⟩
def SzSPost (rs : List (List UInt8)) (q : Int) (w : World) (e : Ending) (w' : World) : Prop := ∃ z : Int, e = .returned (.int .i64 z) ∧ w = w' ∧ z ≤ q ∧ (0 ≤ z → rs.length ≤ 1048576 ∧ ∀ r ∈ rs, r.length ≤ 1048576)
theorem take_all_succ {rs : List (List UInt8)} {k : Nat} (hk : k < rs.length) (h : ∀ r ∈ rs.take k, r.length ≤ 1048576) (h2 : rs[k].length ≤ 1048576) : ∀ r ∈ rs.take (k + 1), r.length ≤ 1048576 := by
  intro r hr
  rw [List.take_succ_eq_append_getElem hk, List.mem_append, List.mem_singleton] at hr
  rcases hr with hr | rfl
  · exact h r hr
  · exact h2

set_option maxHeartbeats 1000000 in
theorem szStringS_any (v : Value) (rs : List (List UInt8)) (q : Int) (w : World) (h : RdS w v rs) (h0 : 0 ≤ q) (h1 : q ≤ 1048576) :
    Calls Tryz.prog 18 #[v, .int .i64 q] w (SzSPost rs q w) := by
  obtain ⟨A, c, rfl, hml, _⟩ := h.1.form
  unfold maxLen at hml
  have H := Lib.hid h
  clear h
  by_cases hn : (rs.length : Int) ≤ q
  · have i1 : ¬ q - (rs.length : Int) < 0 := by omega
    go_enter Tryz.func18, Tryz.ntmps18
    go_wp2_with fail
    go_loop [1, 5] (fun l i => ∃ (k : Nat) (z : Int), k ≤ rs.length ∧ i = .int .i64 k ∧ l = .int .i64 z ∧ 0 ≤ z ∧ z ≤ q ∧ Hid (∀ r ∈ rs.take k, r.length ≤ 1048576)) (fun _ i => rs.length - (intOf i).toNat)
    case atStart => exact ⟨0, q - rs.length, Nat.zero_le _, rfl, rfl, by omega, by omega, Lib.hid (by simp)⟩
    case round =>
      obtain ⟨k, z, hk, rfl, rfl, hz0, hz1, HA⟩ := hrel
      by_cases hlt : k < rs.length
      · have j1 : (0 : Int) ≤ (k : Int) := by omega
        have j2 : (k : Int) < (rs.length : Int) := by omega
        obtain ⟨b, o, rfl, hb, hc⟩ := H.out.1.cells strC_len hlt
        have c0 := hc 0 _ rfl
        simp only [Nat.mul_one, Nat.add_zero] at c0
        have hrl := H.out.2 _ (List.getElem_mem hlt)
        unfold maxLen at hrl
        have HT := Lib.hid (take_all_succ hlt HA.out)
        generalize rs[k] = r at *
        clear hc
        by_cases hz : (r.length : Int) ≤ z
        · have j3 : ¬ z - (r.length : Int) < 0 := by omega
          go_wp2_with fail
          go_round
          case rel => exact ⟨k + 1, z - r.length, by omega, by go_num, rfl, by omega, by omega, Lib.hid (HT.out (by omega))⟩
          case measure => simp [intOf]; omega
        · have j3 : z - (r.length : Int) < 0 := by omega
          go_wp2_with fail
          go_ret
          exact ⟨-1, rfl, rfl, by omega, fun e => by omega⟩
      · obtain rfl : k = rs.length := by omega
        have HA2 := Lib.hid (show ∀ r ∈ rs, r.length ≤ 1048576 by have := HA.out; rwa [List.take_length] at this)
        go_wp2_with fail
        go_ret
        exact ⟨z, rfl, rfl, hz1, fun _ => ⟨by omega, HA2.out⟩⟩
  · have i1 : q - (rs.length : Int) < 0 := by omega
    go_enter Tryz.func18, Tryz.ntmps18
    go_wp2_with fail
    go_ret
    exact ⟨-1, rfl, rfl, by omega, fun e => by omega⟩

theorem set1S (a b : List Value) (u : Value) (k : Nat) (h : a.length = k) (hb : 1 ≤ b.length) : (a ++ b).set k u = a ++ [u] ++ b.drop 1 := by
  subst h
  obtain ⟨b0, b, rfl⟩ : ∃ x y, b = x :: y := by cases b with | nil => simp at hb | cons x y => exact ⟨x, y, rfl⟩
  simp
theorem own_set1S {w : World} {base : Nat} {e : TypeId} {g n cap k : Nat} {a b : List Value} (h : Own w base e 1 (.slice (some ⟨g, 0, none⟩) n cap) n (a ++ b)) (ha : a.length = k) (hk : k < n) (u : Value) :
    Own (w.setCell ⟨g, k, none⟩ u) base e 1 (.slice (some ⟨g, 0, none⟩) n cap) n (a ++ [u] ++ b.drop 1) := by
  have h1 := (h.stored k u).1
  rw [set1S a b u k ha (by have := h.1; rw [List.length_append] at this; omega)] at h1
  exact h1
theorem own_someT {w : World} {base : Nat} {e : TypeId} {size g n cap j : Nat} {xs : List Value} (h : Own w base e size (.slice (some ⟨g, 0, none⟩) n cap) n xs) (hj : j < n * size) : ∃ u, w.cell? ⟨g, j, none⟩ = some u := by
  rw [h.cellAt j hj]
  exact ⟨_, List.getElem?_eq_getElem (by rw [h.1]; exact hj)⟩
def ToSPost (rs : List (List UInt8)) (w : World) (e : Ending) (w' : World) : Prop := ∃ v, e = .returned v ∧ Own w' w.heap.size 9 1 v rs.length (rs.flatMap strC) ∧ Below w.heap.size w w'

set_option maxHeartbeats 800000 in
theorem toStringS_any (v : Value) (rs : List (List UInt8)) (w : World) (h : RdS w v rs) (hn : rs.length ≤ 1048576) :
    Calls Tryz.prog 20 #[v] w (ToSPost rs w) := by
  obtain ⟨A, c, rfl, _, _⟩ := h.1.form
  obtain ⟨i0, hi, hz0, hz1, hz2⟩ := info_parts str_info
  have H := Lib.hid h
  clear h
  go_enter Tryz.func20, Tryz.ntmps20
  go_wp2_with (at_make; refine wpList_make_full _ rfl _ _ 34 rfl w.heap.size 9 i0 _ 1 Tryz.underlying34 hi hz0 hz1 _ _ _ _ rs.length rfl rfl rfl rfl (by rw [hz2]; omega) (by unfold maxLen; omega) (Nat.le_refl _) ?_; intro w1 how hgr)
  have hW : Below w.heap.size w w1 := up_grown (Below.refl _ _) hgr (fun k hk => by cases hk)
  obtain ⟨ys, hys⟩ : ∃ ys, ys = (madeCells (S []).cells (rs.length * 1)).toList := ⟨_, rfl⟩
  have how2 := how
  change Own w1 w.heap.size 9 1 _ _ (madeCells (S []).cells (rs.length * 1)).toList at how2
  rw [← hys] at how2
  clear how hys hgr hi hz0 hz1 hz2
  have HL := Lib.hid how2.1
  have How := Lib.hid how2
  clear how2
  go_loopw [4] (fun i wr => ∃ k : Nat, k ≤ rs.length ∧ i = .int .i64 k ∧ Hid (Own wr w.heap.size 9 1 (.slice (some ⟨w.heap.size, 0, none⟩) rs.length rs.length) rs.length ((rs.take k).flatMap strC ++ ys.drop k)) ∧ Below w.heap.size w wr) (fun i _ => rs.length - (intOf i).toNat)
  case atStart => exact ⟨0, Nat.zero_le _, rfl, Lib.hid (by simpa using How.out), hW⟩
  case round =>
    obtain ⟨k, hk, rfl, HO, hWr⟩ := hrel
    clear hW How
    by_cases hlt : k < rs.length
    · have i1 : (0 : Int) ≤ (k : Int) := by omega
      have i2 : (k : Int) < (rs.length : Int) := by omega
      obtain ⟨b, o, rfl, hb, hc⟩ := (H.out.up hWr).1.cells strC_len hlt
      have c0 := hc 0 _ rfl
      simp only [Nat.mul_one, Nat.add_zero] at c0
      have hts := Lib.hid (show (rs.take (k + 1)).flatMap strC = (rs.take k).flatMap strC ++ [S rs[k]] by rw [List.take_succ_eq_append_getElem hlt, List.flatMap_append]; simp [strC])
      generalize rs[k] = r at *
      obtain ⟨u0, d0⟩ := own_someT HO.out (j := k) (by omega)
      have f0 := HO.out.frozenAt k
      have HO2 := Lib.hid (own_set1S (k := k) HO.out (by rw [flat_len strC 1 strC_len, List.length_take]; omega) hlt (S r))
      have hWr2 := Lib.hid (up_set hWr ⟨w.heap.size, k, none⟩ (S r) (Nat.le_refl _))
      clear hc HO
      go_wp2_with fail
      go_roundw
      case rel => exact ⟨k + 1, by omega, by go_num, Lib.hid (by rw [hts.out]; simpa [List.drop_drop] using HO2.out), hWr2.out⟩
      case measure => simp [intOf]; omega
    · obtain rfl : k = rs.length := by omega
      have HF := Lib.hid (show Own wr w.heap.size 9 1 (.slice (some ⟨w.heap.size, 0, none⟩) rs.length rs.length) rs.length (rs.flatMap strC) by
        have := HO.out
        rwa [List.take_length, List.drop_of_length_le (by have := HL.out; omega), List.append_nil] at this)
      go_wp2_with fail
      go_ret
      exact ⟨_, rfl, HF.out, hWr⟩

end Go.Proofs.YtdngdlcibaiekaaGreatDoor
