/- What is proved here: contracts of markBufferS and heldBufferS. No condition. -/
import Derived.Test.YtiimlnefighlgaaMark
import Derived.Test.YtiimlnefighlgaaBuf4
namespace Go.Proofs.Ytiimlnefighlgaa
open Go.RowKit

/-- the n marked files from mark q on. -/
def mkB (q n : Nat) : List Bf := (List.range n).map fun i => ⟨mtx (q + 3 * i), mtx (q + 3 * i + 1), mtx (q + 3 * i + 2)⟩
theorem mkB_len (q n : Nat) : (mkB q n).length = n := by simp [mkB]
theorem mkB_succ (q n : Nat) : mkB q (n + 1) = mkB q n ++ [⟨mtx (q + 3 * n), mtx (q + 3 * n + 1), mtx (q + 3 * n + 2)⟩] := by simp [mkB, List.range_succ]
theorem mkB_at (q n k : Nat) (hk : k < (mkB q n).length) : (mkB q n)[k] = ⟨mtx (q + 3 * k), mtx (q + 3 * k + 1), mtx (q + 3 * k + 2)⟩ := by simp [mkB]

set_option maxHeartbeats 1000000 in
theorem markBufferS_any (base : Nat) (v : Value) (n : Nat) (xs : List Value) (q : Nat) (w : World) (hq : 1 ≤ q) (hq2 : q ≤ 100) (hn : n ≤ 1048576) (ho : Own w base 70 3 v n xs) :
    Calls Try.prog 46 #[v, .int .i64 q] w fun e w' => e = .returned (.int .i64 ((q + 3 * n : Nat) : Int)) ∧ Own w' base 70 3 v n ((mkB q n).flatMap bfC) ∧ w.grownBy w' v.ownBlock := by
  rcases ho.2 with ⟨rfl, rfl⟩ | ⟨g, cap, cur, rfl, hbg, hh, hnc, hcm, hcs, htake⟩
  · go_enter Try.func46, Try.ntmps46
    go_wp2_with fail
    refine wp_loop_rounds 1 ?_
    rw [rounds_succ]
    go_wp2_with fail
    go_ret
    exact ⟨ret_int (by omega), by simpa [mkB] using World.ownsRow_nil _ _ _ _, World.grownBy.refl _ _⟩
  · have hlen := ho.1
    clear hh hcs htake hbg
    go_enter Try.func46, Try.ntmps46
    go_wp2_with fail
    go_loopw [1, 5] (fun q' i wr => ∃ k : Nat, k ≤ n ∧ i = .int .i64 k ∧ q' = .int .i64 ((q + 3 * k : Nat) : Int) ∧ Own wr base 70 3 (.slice (some ⟨g, 0, none⟩) n cap) n ((mkB q k).flatMap bfC ++ xs.drop (k * 3)) ∧ w.grownBy wr (some g)) (fun _ i _ => n - (intOf i).toNat)
    case atStart => exact ⟨0, Nat.zero_le _, rfl, rfl, by simpa [mkB] using ho, World.grownBy.refl _ _⟩
    case round =>
      obtain ⟨k, hk, rfl, rfl, how, hgr⟩ := hrel
      by_cases hlt : k < n
      · obtain ⟨p, hp⟩ : ∃ p, p = q + 3 * k := ⟨_, rfl⟩
        rw [← hp]
        have hp1 : 1 ≤ p := by omega
        have hp2 : p ≤ 3145828 := by omega
        have HP := Lib.hid hp
        clear hp ho
        have i1 : (0 : Int) ≤ (k : Int) := by omega
        have i2 : (k : Int) < (n : Int) := by omega
        have hgw : g < wr.heap.size := (how.lt g rfl).2
        go_wp2_with fail
        refine (markText_any p _ hp1 (by omega)).mono ?_
        rintro e w1 ⟨rfl, hb1⟩
        have how1 := own_up how hb1
        obtain ⟨u0, c0⟩ := own_some how1 (show k * 3 < n * 3 by omega)
        have f0 := how1.frozenAt (k * 3)
        have st1 := how1.stored (k * 3) (S (mtx p))
        have G1 : w.grownBy (w1.setCell ⟨g, k * 3, none⟩ (S (mtx p))) (some g) := gb_here (gb_below hgr hb1) rfl _
        have HO1 := Lib.hid st1.1
        clear st1 how how1 hb1 hgr
        go_wp2_with fail
        refine (markText_any (p + 1) _ (by omega) (by omega)).mono ?_
        rintro e w2 ⟨rfl, hb2⟩
        have how2 := own_up HO1.out hb2
        obtain ⟨u1, c1⟩ := own_some how2 (show k * 3 + 1 < n * 3 by omega)
        have f1 := how2.frozenAt (k * 3 + 1)
        have st2 := how2.stored (k * 3 + 1) (S (mtx (p + 1)))
        have G2 : w.grownBy (w2.setCell ⟨g, k * 3 + 1, none⟩ (S (mtx (p + 1)))) (some g) := gb_here (gb_below G1 hb2) rfl _
        have HO2 := Lib.hid st2.1
        clear st2 how2 hb2 G1 c0 f0 HO1
        go_wp2_with fail
        refine (markText_any (p + 1 + 1) _ (by omega) (by omega)).mono ?_
        rintro e w3 ⟨rfl, hb3⟩
        have how3 := own_up HO2.out hb3
        obtain ⟨u2, c2⟩ := own_some how3 (show k * 3 + 2 < n * 3 by omega)
        have f2 := how3.frozenAt (k * 3 + 2)
        have st3 := how3.stored (k * 3 + 2) (S (mtx (p + 1 + 1)))
        have G3 : w.grownBy (w3.setCell ⟨g, k * 3 + 2, none⟩ (S (mtx (p + 1 + 1)))) (some g) := gb_here (gb_below G2 hb3) rfl _
        have HO3 := Lib.hid st3.1
        have HG3 := Lib.hid G3
        clear st3 how3 hb3 G2 G3 c1 f1 HO2
        go_wp2_with fail
        go_roundw
        case rel =>
          refine ⟨k + 1, by omega, by go_num, by rw [show q + 3 * (k + 1) = p + 1 + 1 + 1 by rw [HP.out]; omega]; go_num, ?_, HG3.out⟩
          have := HO3.out
          rw [set3 _ _ _ _ _ (k * 3) (by rw [flat_len bfC 3 bfC_len, mkB_len]) (by rw [List.length_drop, hlen]; omega), List.drop_drop] at this
          rw [mkB_succ, List.flatMap_append, show (k + 1) * 3 = k * 3 + 3 by omega, ← HP.out]
          exact this
        case measure => simp [intOf]; omega
      · obtain rfl : k = n := by omega
        have Ho := Lib.hid how
        have Hg := Lib.hid hgr
        clear ho how hgr
        go_wp2_with fail
        go_ret
        refine ⟨rfl, ?_, Hg.out⟩
        have := Ho.out
        rwa [List.drop_of_length_le (by omega), List.append_nil] at this

set_option maxHeartbeats 1000000 in
theorem heldBufferS_any (v : Value) (n : Nat) (q : Nat) (w : World) (hq : 1 ≤ q) (hq2 : q ≤ 100) (hn : n ≤ 1048576) (hu : RdL w 3 bfC v (mkB q n)) :
    Calls Try.prog 47 #[v, .int .i64 q] w fun e w' => e = .returned (.int .i64 ((q + 3 * n : Nat) : Int)) ∧ Below w.heap.size w w' := by
  obtain ⟨A, c, rfl, _, _⟩ := hu.form
  have hml := mkB_len q n
  rw [hml]
  rw [hml] at hu
  go_enter Try.func47, Try.ntmps47
  go_wp2_with fail
  go_loopw [1, 5] (fun q' i wr => ∃ k : Nat, k ≤ n ∧ i = .int .i64 k ∧ q' = .int .i64 ((q + 3 * k : Nat) : Int) ∧ Below w.heap.size w wr) (fun _ i _ => n - (intOf i).toNat)
  case atStart => exact ⟨0, Nat.zero_le _, rfl, rfl, Below.refl _ _⟩
  case round =>
    obtain ⟨k, hk, rfl, rfl, hW⟩ := hrel
    by_cases hlt : k < n
    · have hlt' : k < (mkB q n).length := by rw [hml]; exact hlt
      obtain ⟨b, o, rfl, hb, hc⟩ := (hu.up hW).cells bfC_len hlt'
      rw [mkB_at q n k hlt'] at hc
      have c0 := hc 0 _ rfl
      have c1 := hc 1 _ rfl
      have c2 := hc 2 _ rfl
      simp only [Nat.add_zero] at c0
      clear hc hu hlt'
      obtain ⟨p, hp⟩ : ∃ p, p = q + 3 * k := ⟨_, rfl⟩
      rw [← hp] at c0 c1 c2
      rw [← hp]
      have hp1 : 1 ≤ p := by omega
      have hp2 : p ≤ 3145828 := by omega
      have HP := Lib.hid hp
      clear hp
      have i1 : (0 : Int) ≤ (k : Int) := by omega
      have i2 : (k : Int) < (n : Int) := by omega
      have hne := UpW.nonempty wr
      have C1 := Lib.hid (fun y : UpW wr => calls_up (markText_any p (y.at wr) hp1 (by omega)))
      go_wp2_with fail
      refine wp_region_up_lit (by kernel_rfl) (by kernel_rfl) ?_
      repeat (go_big_quiet_step ((go_at_call 74; exact C1.out _)))
      refine wpQuiet_nil ?_
      intro w1 hb1
      replace hb1 := UpW.out hb1
      have d1 := (hb1.cell (p := ⟨b, o + k * 3 + 1, none⟩) hb).trans c1
      have d2 := (hb1.cell (p := ⟨b, o + k * 3 + 2, none⟩) hb).trans c2
      have hz1 : b < w1.heap.size := Nat.lt_of_lt_of_le hb hb1.size
      have hW1 : Below w.heap.size w w1 := up_trans hW hb1
      clear c0 c1 c2 C1 hb1 hne
      have hne := UpW.nonempty w1
      have C1 := Lib.hid (fun y : UpW w1 => calls_up (markText_any (p + 1) (y.at w1) (by omega) (by omega)))
      go_wp2_with fail
      refine wp_region_up_lit (by kernel_rfl) (by kernel_rfl) ?_
      repeat (go_big_quiet_step ((go_at_call 74; exact C1.out _)))
      refine wpQuiet_nil ?_
      intro w2 hb2
      replace hb2 := UpW.out hb2
      have e2 := (hb2.cell (p := ⟨b, o + k * 3 + 2, none⟩) hz1).trans d2
      have hz2 : b < w2.heap.size := Nat.lt_of_lt_of_le hz1 hb2.size
      have hW2 : Below w.heap.size w w2 := up_trans hW1 hb2
      clear d1 d2 C1 hb2 hne hW1
      have hne := UpW.nonempty w2
      have C1 := Lib.hid (fun y : UpW w2 => calls_up (markText_any (p + 1 + 1) (y.at w2) (by omega) (by omega)))
      go_wp2_with fail
      refine wp_region_up_lit (by kernel_rfl) (by kernel_rfl) ?_
      repeat (go_big_quiet_step ((go_at_call 74; exact C1.out _)))
      refine wpQuiet_nil ?_
      intro w3 hb3
      replace hb3 := UpW.out hb3
      have hW3 : Below w.heap.size w w3 := up_trans hW2 hb3
      clear C1 hb3 hne hW2 e2
      go_wp2_with fail
      go_roundw
      case rel => exact ⟨k + 1, by omega, by go_num, by rw [show q + 3 * (k + 1) = p + 1 + 1 + 1 by rw [HP.out]; omega]; go_num, hW3⟩
      case measure => simp [intOf]; omega
    · obtain rfl : k = n := by omega
      go_wp2_with fail
      go_ret
      exact ⟨rfl, hW⟩

end Go.Proofs.Ytiimlnefighlgaa
