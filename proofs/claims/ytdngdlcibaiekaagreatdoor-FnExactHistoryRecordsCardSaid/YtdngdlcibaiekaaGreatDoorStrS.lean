/- What is proved here: contracts of eqStringS, markStringS and heldStringS. No condition. -/
import Derived.Test.YtdngdlcibaiekaaGreatDoorStrC
import Derived.Test.YtdngdlcibaiekaaGreatDoorReg
import Derived.Test.YtdngdlcibaiekaaGreatDoorMark
namespace Go.Proofs.YtdngdlcibaiekaaGreatDoor
open Go.RowKit

theorem eqStringS_same (u v : Value) (xs : List (List UInt8)) (w : World) (hu : RdL w 1 strC u xs) (hv : RdL w 1 strC v xs) :
    Calls Tryz.prog 22 #[u, v] w fun e w' => e = .returned (.bool true) ∧ Below w.heap.size w w' := by
  obtain ⟨A, c, rfl, hm, _⟩ := hu.form
  obtain ⟨B, d, rfl, _, _⟩ := hv.form
  unfold maxLen at hm
  go_enter Tryz.func22, Tryz.ntmps22
  go_wp2_with fail
  go_loopw [5] (fun i wr => ∃ k : Nat, k ≤ xs.length ∧ i = .int .i64 k ∧ Below w.heap.size w wr) (fun i _ => xs.length - (intOf i).toNat)
  case atStart => exact ⟨0, Nat.zero_le _, rfl, Below.refl _ _⟩
  case round =>
    obtain ⟨k, hk, rfl, hW⟩ := hrel
    by_cases hlt : k < xs.length
    · have i1 : (0 : Int) ≤ (k : Int) := by omega
      have i2 : (k : Int) < (xs.length : Int) := by omega
      obtain ⟨b, o, rfl, hb, hc⟩ := (hu.up hW).cells strC_len hlt
      obtain ⟨b', o', rfl, hb', hc'⟩ := (hv.up hW).cells strC_len hlt
      have c0 := hc 0 _ rfl
      have d0 := hc' 0 _ rfl
      simp only [Nat.mul_one, Nat.add_zero] at c0 d0
      clear hc hc'
      obtain ⟨x, hx⟩ : ∃ x, x = xs[k] := ⟨_, rfl⟩
      rw [← hx] at c0 d0
      clear hx
      go_wp2_with fail
      go_quiet (fail)
      go_wp2_with fail
      go_roundw
      case rel => exact ⟨k + 1, by omega, by go_num, by (repeat (first | exact Below.refl _ _ | assumption | refine Below.drew ?_ | refine up_drewN ?_ _ | refine up_alloc ?_ _ | refine up_set ?_ _ _ (by first | exact Nat.le_refl _ | (simp; done) | (simp; omega) | omega) | refine up_trans ?_ (by assumption)))⟩
      case measure => simp [intOf]; omega
    · go_wp2_with fail
      go_ret
      exact ⟨rfl, hW⟩

theorem own_someS {w : World} {base : Nat} {e : TypeId} {size g n cap j : Nat} {xs : List Value} (h : Own w base e size (.slice (some ⟨g, 0, none⟩) n cap) n xs) (hj : j < n * size) : ∃ u, w.cell? ⟨g, j, none⟩ = some u := by
  rw [h.cellAt j hj]
  exact ⟨_, List.getElem?_eq_getElem (by rw [h.1]; exact hj)⟩
/-- the n marked texts from mark q on. -/
def mkS (q n : Nat) : List (List UInt8) := (List.range n).map fun i => mtx (q + i)
theorem mkS_len (q n : Nat) : (mkS q n).length = n := by simp [mkS]
theorem mkS_succ (q n : Nat) : mkS q (n + 1) = mkS q n ++ [mtx (q + n)] := by simp [mkS, List.range_succ]
theorem mkS_at (q n k : Nat) (hk : k < (mkS q n).length) : (mkS q n)[k] = mtx (q + k) := by simp [mkS]
theorem set1 (a b : List Value) (u : Value) (k : Nat) (h : a.length = k) (hb : 1 ≤ b.length) : (a ++ b).set k u = a ++ [u] ++ b.drop 1 := by
  subst h
  obtain ⟨b0, b, rfl⟩ : ∃ x y, b = x :: y := by cases b with | nil => simp at hb | cons x y => exact ⟨x, y, rfl⟩
  simp

set_option maxHeartbeats 1000000 in
theorem markStringS_any (base : Nat) (v : Value) (n : Nat) (xs : List Value) (q : Nat) (w : World) (hq : 1 ≤ q) (hq2 : q ≤ 100) (hn : n ≤ 1048576) (ho : Own w base 9 1 v n xs) :
    Calls Tryz.prog 31 #[v, .int .i64 q] w fun e w' => e = .returned (.int .i64 ((q + n : Nat) : Int)) ∧ Own w' base 9 1 v n ((mkS q n).flatMap strC) ∧ w.grownBy w' v.ownBlock := by
  rcases ho.2 with ⟨rfl, rfl⟩ | ⟨g, cap, cur, rfl, hbg, hh, hnc, hcm, hcs, htake⟩
  · go_enter Tryz.func31, Tryz.ntmps31
    go_wp2_with fail
    refine wp_loop_rounds 1 ?_
    rw [rounds_succ]
    go_wp2_with fail
    go_ret
    exact ⟨ret_int (by omega), by simpa [mkS] using World.ownsRow_nil _ _ _ _, World.grownBy.refl _ _⟩
  · have hlen := ho.1
    clear hh hcs htake hbg
    go_enter Tryz.func31, Tryz.ntmps31
    go_wp2_with fail
    go_loopw [1, 5] (fun q' i wr => ∃ k : Nat, k ≤ n ∧ i = .int .i64 k ∧ q' = .int .i64 ((q + k : Nat) : Int) ∧ Own wr base 9 1 (.slice (some ⟨g, 0, none⟩) n cap) n ((mkS q k).flatMap strC ++ xs.drop k) ∧ w.grownBy wr (some g)) (fun _ i _ => n - (intOf i).toNat)
    case atStart => exact ⟨0, Nat.zero_le _, rfl, rfl, by simpa [mkS] using ho, World.grownBy.refl _ _⟩
    case round =>
      obtain ⟨k, hk, rfl, rfl, how, hgr⟩ := hrel
      by_cases hlt : k < n
      · obtain ⟨p, hp⟩ : ∃ p, p = q + k := ⟨_, rfl⟩
        rw [← hp]
        have hp1 : 1 ≤ p := by omega
        have hp2 : p ≤ 3145828 := by omega
        have HP := Lib.hid hp
        clear hp ho
        have i1 : (0 : Int) ≤ (k : Int) := by omega
        have i2 : (k : Int) < (n : Int) := by omega
        have hgw : g < wr.heap.size := (how.lt g rfl).2
        go_wp2_with fail
        refine (markText_any p _ hp1 (by omega)).mono ?_
        rintro e w1 ⟨rfl, hb1⟩
        have how1 := own_up how hb1
        obtain ⟨u0, c0⟩ := own_someS how1 (show k < n * 1 by omega)
        have f0 := how1.frozenAt k
        have st1 := how1.stored k (S (mtx p))
        have G1 : w.grownBy (w1.setCell ⟨g, k, none⟩ (S (mtx p))) (some g) := gb_here (gb_below hgr hb1) rfl _
        have HO1 := Lib.hid st1.1
        have HG1 := Lib.hid G1
        clear st1 how how1 hb1 hgr G1
        go_wp2_with fail
        go_roundw
        case rel =>
          refine ⟨k + 1, by omega, by go_num, by rw [show q + (k + 1) = p + 1 by rw [HP.out]; omega]; go_num, ?_, HG1.out⟩
          have := HO1.out
          rw [set1 _ _ _ k (by rw [flat_len strC 1 strC_len, mkS_len]; omega) (by rw [List.length_drop, hlen]; omega), List.drop_drop] at this
          rw [mkS_succ, List.flatMap_append, ← HP.out]
          exact this
        case measure => simp [intOf]; omega
      · obtain rfl : k = n := by omega
        have Ho := Lib.hid how
        have Hg := Lib.hid hgr
        clear ho how hgr
        go_wp2_with fail
        go_ret
        refine ⟨rfl, ?_, Hg.out⟩
        have := Ho.out
        rwa [List.drop_of_length_le (by omega), List.append_nil] at this

set_option maxHeartbeats 1000000 in
theorem heldStringS_any (v : Value) (n : Nat) (q : Nat) (w : World) (hq : 1 ≤ q) (hq2 : q ≤ 100) (hn : n ≤ 1048576) (hu : RdL w 1 strC v (mkS q n)) :
    Calls Tryz.prog 32 #[v, .int .i64 q] w fun e w' => e = .returned (.int .i64 ((q + n : Nat) : Int)) ∧ Below w.heap.size w w' := by
  obtain ⟨A, c, rfl, _, _⟩ := hu.form
  have hml := mkS_len q n
  rw [hml]
  rw [hml] at hu
  go_enter Tryz.func32, Tryz.ntmps32
  go_wp2_with fail
  go_loopw [1, 5] (fun q' i wr => ∃ k : Nat, k ≤ n ∧ i = .int .i64 k ∧ q' = .int .i64 ((q + k : Nat) : Int) ∧ Below w.heap.size w wr) (fun _ i _ => n - (intOf i).toNat)
  case atStart => exact ⟨0, Nat.zero_le _, rfl, rfl, Below.refl _ _⟩
  case round =>
    obtain ⟨k, hk, rfl, rfl, hW⟩ := hrel
    by_cases hlt : k < n
    · have hlt' : k < (mkS q n).length := by rw [hml]; exact hlt
      obtain ⟨b, o, rfl, hb, hc⟩ := (hu.up hW).cells strC_len hlt'
      rw [mkS_at q n k hlt'] at hc
      have c0 := hc 0 _ rfl
      simp only [Nat.mul_one, Nat.add_zero] at c0
      clear hc hu hlt'
      obtain ⟨p, hp⟩ : ∃ p, p = q + k := ⟨_, rfl⟩
      rw [← hp] at c0
      rw [← hp]
      have hp1 : 1 ≤ p := by omega
      have hp2 : p ≤ 3145828 := by omega
      have HP := Lib.hid hp
      clear hp
      have i1 : (0 : Int) ≤ (k : Int) := by omega
      have i2 : (k : Int) < (n : Int) := by omega
      have hne := UpW.nonempty wr
      have C1 := Lib.hid (fun y : UpW wr => calls_up (markText_any p (y.at wr) hp1 (by omega)))
      go_wp2_with fail
      refine wp_region_up_lit (by kernel_rfl) (by kernel_rfl) ?_
      repeat (go_big_quiet_step ((go_at_call 67; exact C1.out _)))
      refine wpQuiet_nil ?_
      intro w1 hb1
      replace hb1 := UpW.out hb1
      have hW1 : Below w.heap.size w w1 := up_trans hW hb1
      clear c0 C1 hb1 hne
      go_wp2_with fail
      go_roundw
      case rel => exact ⟨k + 1, by omega, by go_num, by rw [show q + (k + 1) = p + 1 by rw [HP.out]; omega]; go_num, hW1⟩
      case measure => simp [intOf]; omega
    · obtain rfl : k = n := by omega
      go_wp2_with fail
      go_ret
      exact ⟨rfl, hW⟩

end Go.Proofs.YtdngdlcibaiekaaGreatDoor
