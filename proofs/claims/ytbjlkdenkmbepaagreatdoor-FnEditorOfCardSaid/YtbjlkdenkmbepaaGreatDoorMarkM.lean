/- What is proved here: contracts of markMomentS, heldMomentS, markHistory and heldHistory. No condition. -/
import Derived.Test.YtbjlkdenkmbepaaGreatDoorMark
import Derived.Test.YtbjlkdenkmbepaaGreatDoorHistY
namespace Go.Proofs.YtbjlkdenkmbepaaGreatDoor
open Go.RowKit
set_option linter.unusedVariables false

/-- the state that is marked from mark p on. -/
def mkMo (p : Nat) : Mo := ⟨p, ⟨(p + 1 : Nat), (p + 1 + 1 : Nat), mtx (p + 1 + 1 + 1)⟩, ⟨(p + 1 + 1 + 1 + 1 : Nat), (p + 1 + 1 + 1 + 1 + 1 : Nat), mtx (p + 1 + 1 + 1 + 1 + 1 + 1)⟩⟩
/-- the n marked states from mark q on. -/
def mkM (q n : Nat) : List Mo := (List.range n).map fun i => mkMo (q + 7 * i)
theorem mkM_len (q n : Nat) : (mkM q n).length = n := by simp [mkM]
theorem mkM_succ (q n : Nat) : mkM q (n + 1) = mkM q n ++ [mkMo (q + 7 * n)] := by simp [mkM, List.range_succ]
theorem mkM_at (q n k : Nat) (hk : k < (mkM q n).length) : (mkM q n)[k] = mkMo (q + 7 * k) := by simp [mkM]

set_option maxRecDepth 100000 in
set_option maxHeartbeats 2000000 in
theorem markMomentS_any (base : Nat) (v : Value) (n : Nat) (xs : List Value) (q : Nat) (w : World) (hq : 1 ≤ q) (hq2 : q ≤ 100) (hn : n ≤ 1048576) (ho : Own w base 96 7 v n xs) :
    Calls Tryz.prog 121 #[v, .int .i64 q] w fun e w' => e = .returned (.int .i64 ((q + 7 * n : Nat) : Int)) ∧ Own w' base 96 7 v n ((mkM q n).flatMap moC) ∧ w.grownBy w' v.ownBlock := by
  rcases ho.2 with ⟨rfl, rfl⟩ | ⟨g, cap, cur, rfl, hbg, hh, hnc, hcm, hcs, htake⟩
  · go_enter Tryz.func121, Tryz.ntmps121
    go_wp2_with fail
    refine wp_loop_rounds 1 ?_
    rw [rounds_succ]
    go_wp2_with fail
    go_ret
    exact ⟨ret_int (by omega), by simpa [mkM] using World.ownsRow_nil _ _ _ _, World.grownBy.refl _ _⟩
  · have hlen := ho.1
    clear hh hcs htake hbg
    go_enter Tryz.func121, Tryz.ntmps121
    go_wp2_with fail
    go_loopw [1, 5] (fun q' i wr => ∃ k : Nat, k ≤ n ∧ i = .int .i64 k ∧ q' = .int .i64 ((q + 7 * k : Nat) : Int) ∧ Own wr base 96 7 (.slice (some ⟨g, 0, none⟩) n cap) n ((mkM q k).flatMap moC ++ xs.drop (k * 7)) ∧ w.grownBy wr (some g)) (fun _ i _ => n - (intOf i).toNat)
    case atStart => exact ⟨0, Nat.zero_le _, rfl, rfl, by simpa [mkM] using ho, World.grownBy.refl _ _⟩
    case round =>
      obtain ⟨k, hk, rfl, rfl, how, hgr⟩ := hrel
      by_cases hlt : k < n
      · obtain ⟨p, hp⟩ : ∃ p, p = q + 7 * k := ⟨_, rfl⟩
        rw [← hp]
        have hp1 : 1 ≤ p := by omega
        have hp2 : p ≤ 7340132 := by omega
        have HP := Lib.hid hp
        clear hp ho
        have i1 : (0 : Int) ≤ (k : Int) := by omega
        have i2 : (k : Int) < (n : Int) := by omega
        have hgw : g < wr.heap.size := (how.lt g rfl).2
        obtain ⟨u0, d0⟩ := own_someM how (show k * 7 < n * 7 by omega)
        obtain ⟨u1, d1⟩ := own_someM how (show k * 7 + 1 < n * 7 by omega)
        obtain ⟨u2, d2⟩ := own_someM how (show k * 7 + 2 < n * 7 by omega)
        have f0 := how.frozenAt (k * 7)
        have f1 := how.frozenAt (k * 7 + 1)
        have f2 := how.frozenAt (k * 7 + 2)
        have HO1 := Lib.hid ((((how.stored (k * 7) (.int .i64 (p : Int))).1.stored (k * 7 + 1) (.int .i64 ((p + 1 : Nat) : Int))).1.stored (k * 7 + 2) (.int .i64 ((p + 1 + 1 : Nat) : Int))).1)
        have G1 : w.grownBy (((wr.setCell ⟨g, k * 7, none⟩ (.int .i64 (p : Int))).setCell ⟨g, k * 7 + 1, none⟩ (.int .i64 ((p + 1 : Nat) : Int))).setCell ⟨g, k * 7 + 2, none⟩ (.int .i64 ((p + 1 + 1 : Nat) : Int))) (some g) := gb_here (gb_here (gb_here hgr rfl _) rfl _) rfl _
        have HG1 := Lib.hid G1
        clear how hgr G1
        go_wp2_with fail
        refine (markText_any (p + 1 + 1 + 1) _ (by omega) (by omega)).mono ?_
        rintro e w1 ⟨rfl, hb1⟩
        have how1 := own_up HO1.out hb1
        obtain ⟨u3, d3⟩ := own_someM how1 (show k * 7 + 3 < n * 7 by omega)
        obtain ⟨u4, d4⟩ := own_someM how1 (show k * 7 + 4 < n * 7 by omega)
        obtain ⟨u5, d5⟩ := own_someM how1 (show k * 7 + 5 < n * 7 by omega)
        have f3 := how1.frozenAt (k * 7 + 3)
        have f4 := how1.frozenAt (k * 7 + 4)
        have f5 := how1.frozenAt (k * 7 + 5)
        have HO2 := Lib.hid ((((how1.stored (k * 7 + 3) (S (mtx (p + 1 + 1 + 1)))).1.stored (k * 7 + 4) (.int .i64 ((p + 1 + 1 + 1 + 1 : Nat) : Int))).1.stored (k * 7 + 5) (.int .i64 ((p + 1 + 1 + 1 + 1 + 1 : Nat) : Int))).1)
        have HG2 := Lib.hid (gb_here (gb_here (gb_here (gb_below HG1.out hb1) rfl _) rfl _) rfl _ : w.grownBy (((w1.setCell ⟨g, k * 7 + 3, none⟩ (S (mtx (p + 1 + 1 + 1)))).setCell ⟨g, k * 7 + 4, none⟩ (.int .i64 ((p + 1 + 1 + 1 + 1 : Nat) : Int))).setCell ⟨g, k * 7 + 5, none⟩ (.int .i64 ((p + 1 + 1 + 1 + 1 + 1 : Nat) : Int))) (some g))
        clear how1 hb1 HO1 HG1 d0 d1 d2 f0 f1 f2
        go_wp2_with fail
        refine (markText_any (p + 1 + 1 + 1 + 1 + 1 + 1) _ (by omega) (by omega)).mono ?_
        rintro e w2 ⟨rfl, hb2⟩
        have how2 := own_up HO2.out hb2
        obtain ⟨u6, d6⟩ := own_someM how2 (show k * 7 + 6 < n * 7 by omega)
        have f6 := how2.frozenAt (k * 7 + 6)
        have HO3 := Lib.hid ((how2.stored (k * 7 + 6) (S (mtx (p + 1 + 1 + 1 + 1 + 1 + 1)))).1)
        have HG3 := Lib.hid (gb_here (gb_below HG2.out hb2) rfl _ : w.grownBy (w2.setCell ⟨g, k * 7 + 6, none⟩ (S (mtx (p + 1 + 1 + 1 + 1 + 1 + 1)))) (some g))
        clear how2 hb2 HO2 HG2 d3 d4 d5 f3 f4 f5
        go_wp2_with fail
        go_roundw
        case rel =>
          refine ⟨k + 1, by omega, by go_num, by rw [show q + 7 * (k + 1) = p + 1 + 1 + 1 + 1 + 1 + 1 + 1 by rw [HP.out]; omega]; go_num, ?_, HG3.out⟩
          have := HO3.out
          rw [set7 _ _ _ _ _ _ _ _ _ (k * 7) (by rw [flat_len moC 7 moC_len, mkM_len]) (by rw [List.length_drop, hlen]; omega), List.drop_drop] at this
          rw [mkM_succ, List.flatMap_append, show (k + 1) * 7 = k * 7 + 7 by omega, ← HP.out]
          exact this
        case measure => simp [intOf]; omega
      · obtain rfl : k = n := by omega
        have Ho := Lib.hid how
        have Hg := Lib.hid hgr
        clear ho how hgr
        go_wp2_with fail
        go_ret
        refine ⟨rfl, ?_, Hg.out⟩
        have := Ho.out
        rwa [List.drop_of_length_le (by omega), List.append_nil] at this

set_option maxRecDepth 100000 in
set_option maxHeartbeats 2000000 in
theorem heldMomentS_any (v : Value) (n : Nat) (q : Nat) (w : World) (hq : 1 ≤ q) (hq2 : q ≤ 100) (hn : n ≤ 1048576) (hu : RdL w 7 moC v (mkM q n)) :
    Calls Tryz.prog 122 #[v, .int .i64 q] w fun e w' => e = .returned (.int .i64 ((q + 7 * n : Nat) : Int)) ∧ Below w.heap.size w w' := by
  obtain ⟨A, c, rfl, _, _⟩ := hu.form
  have hml := mkM_len q n
  rw [hml]
  rw [hml] at hu
  go_enter Tryz.func122, Tryz.ntmps122
  go_wp2_with fail
  go_loopw [1, 5] (fun q' i wr => ∃ k : Nat, k ≤ n ∧ i = .int .i64 k ∧ q' = .int .i64 ((q + 7 * k : Nat) : Int) ∧ Below w.heap.size w wr) (fun _ i _ => n - (intOf i).toNat)
  case atStart => exact ⟨0, Nat.zero_le _, rfl, rfl, Below.refl _ _⟩
  case round =>
    obtain ⟨k, hk, rfl, rfl, hW⟩ := hrel
    by_cases hlt : k < n
    · have hlt' : k < (mkM q n).length := by rw [hml]; exact hlt
      obtain ⟨b, o, rfl, hb, hc⟩ := (hu.up hW).cells moC_len hlt'
      rw [mkM_at q n k hlt'] at hc
      have c0 := hc 0 _ rfl
      have c1 := hc 1 _ rfl
      have c2 := hc 2 _ rfl
      have c3 := hc 3 _ rfl
      have c4 := hc 4 _ rfl
      have c5 := hc 5 _ rfl
      have c6 := hc 6 _ rfl
      simp only [Nat.add_zero, mkMo] at c0 c1 c2 c3 c4 c5 c6
      clear hc hu hlt'
      obtain ⟨p, hp⟩ : ∃ p, p = q + 7 * k := ⟨_, rfl⟩
      rw [← hp] at c0 c1 c2 c3 c4 c5 c6
      rw [← hp]
      have hp1 : 1 ≤ p := by omega
      have hp2 : p ≤ 7340132 := by omega
      have HP := Lib.hid hp
      clear hp
      have i1 : (0 : Int) ≤ (k : Int) := by omega
      have i2 : (k : Int) < (n : Int) := by omega
      have hne := UpW.nonempty wr
      have C1 := Lib.hid (fun y : UpW wr => calls_up (markText_any (p + 1 + 1 + 1) (y.at wr) (by omega) (by omega)))
      go_wp2_with fail
      refine wp_region_up_lit (by kernel_rfl) (by kernel_rfl) ?_
      repeat (go_big_quiet_step ((go_at_call 69; exact C1.out _)))
      refine wpQuiet_nil ?_
      intro w1 hb1
      replace hb1 := UpW.out hb1
      replace c4 := (hb1.cell (p := ⟨b, o + k * 7 + 4, none⟩) hb).trans c4
      replace c5 := (hb1.cell (p := ⟨b, o + k * 7 + 5, none⟩) hb).trans c5
      replace c6 := (hb1.cell (p := ⟨b, o + k * 7 + 6, none⟩) hb).trans c6
      have hz1 : b < w1.heap.size := Nat.lt_of_lt_of_le hb hb1.size
      have hW1 : Below w.heap.size w w1 := up_trans hW hb1
      clear c0 c1 c2 c3 C1 hb1 hne
      have hne := UpW.nonempty w1
      have C1 := Lib.hid (fun y : UpW w1 => calls_up (markText_any (p + 1 + 1 + 1 + 1 + 1 + 1) (y.at w1) (by omega) (by omega)))
      go_wp2_with fail
      refine wp_region_up_lit (by kernel_rfl) (by kernel_rfl) ?_
      repeat (go_big_quiet_step ((go_at_call 69; exact C1.out _)))
      refine wpQuiet_nil ?_
      intro w2 hb2
      replace hb2 := UpW.out hb2
      have hW2 : Below w.heap.size w w2 := up_trans hW1 hb2
      clear c4 c5 c6 C1 hb2 hne hW1
      go_wp2_with fail
      go_roundw
      case rel => exact ⟨k + 1, by omega, by go_num, by rw [show q + 7 * (k + 1) = p + 1 + 1 + 1 + 1 + 1 + 1 + 1 by rw [HP.out]; omega]; go_num, hW2⟩
      case measure => simp [intOf]; omega
    · obtain rfl : k = n := by omega
      go_wp2_with fail
      go_ret
      exact ⟨rfl, hW⟩

set_option maxRecDepth 100000 in
theorem markHistory_any (base : Nat) (v : Value) (n : Nat) (a : Int) (xs : List Value) (q : Nat) (w : World) (hq : 1 ≤ q) (hq2 : q ≤ 100) (hn : n ≤ 1048576) (hbw : base ≤ w.heap.size) (ho : Own w base 96 7 v n xs) :
    Calls Tryz.prog 67 #[.agg #[v, .int .i64 a], .int .i64 q] w fun e w' => e = .returned (.int .i64 ((q + 7 * n : Nat) : Int)) ∧ Own w' base 96 7 v n ((mkM q n).flatMap moC) ∧ w.grownBy w' v.ownBlock := by
  have form : ∃ A c, v = .slice A n c := by
    rcases ho.2 with ⟨rfl, rfl⟩ | ⟨g, cap, cur, rfl, _⟩
    · exact ⟨_, _, rfl⟩
    · exact ⟨_, _, rfl⟩
  obtain ⟨A, c, rfl⟩ := form
  have hlt := Lib.hid (fun g (e : (Value.slice A n c).ownBlock = some g) => (ho.lt g e).2)
  have T := Lib.hid (fun (w' : World) (hb : Below w.heap.size w w') => markMomentS_any base (.slice A n c) n xs q w' hq hq2 hn (own_up ho hb))
  clear ho
  go_enter Tryz.func67, Tryz.ntmps67
  go_wp2_with fail
  refine (T.out _ (by (repeat (first | exact Below.refl _ _ | assumption | refine Below.drew ?_ | refine up_drewN ?_ _ | refine up_alloc ?_ _ | refine up_set ?_ _ _ (by first | exact Nat.le_refl _ | (simp; done) | (simp; omega) | omega) | refine up_trans ?_ (by assumption))))).mono ?_
  rintro e w1 ⟨rfl, ho1, hgr⟩
  have HO := Lib.hid ho1
  have HG : Hid (w.grownBy w1 (Value.slice A n c).ownBlock) := Lib.hid (gb_trans (gb_below (World.grownBy.refl _ _) (by (repeat (first | exact Below.refl _ _ | assumption | refine Below.drew ?_ | refine up_drewN ?_ _ | refine up_alloc ?_ _ | refine up_set ?_ _ _ (by first | exact Nat.le_refl _ | (simp; done) | (simp; omega) | omega) | refine up_trans ?_ (by assumption))))) hgr)
  clear hgr ho1 T
  go_wp2_with fail
  go_ret
  exact ⟨rfl, HO.out, HG.out⟩

set_option maxRecDepth 100000 in
theorem heldHistory_any (v : Value) (n : Nat) (a : Int) (q : Nat) (w : World) (hq : 1 ≤ q) (hq2 : q ≤ 100) (hn : n ≤ 1048576) (hu : RdL w 7 moC v (mkM q n)) :
    Calls Tryz.prog 68 #[.agg #[v, .int .i64 a], .int .i64 q] w fun e w' => e = .returned (.int .i64 ((q + 7 * n : Nat) : Int)) ∧ Below w.heap.size w w' := by
  obtain ⟨A, c, rfl, _, _⟩ := hu.form
  rw [mkM_len] at *
  have T := Lib.hid (fun (w' : World) (hb : Below w.heap.size w w') => heldMomentS_any (.slice A n c) n q w' hq hq2 hn (hu.up hb))
  clear hu
  go_enter Tryz.func68, Tryz.ntmps68
  go_wp2_with fail
  refine (T.out _ (by (repeat (first | exact Below.refl _ _ | assumption | refine Below.drew ?_ | refine up_drewN ?_ _ | refine up_alloc ?_ _ | refine up_set ?_ _ _ (by first | exact Nat.le_refl _ | (simp; done) | (simp; omega) | omega) | refine up_trans ?_ (by assumption))))).mono ?_
  rintro e w1 ⟨rfl, hb⟩
  have hW : Below w.heap.size w w1 := by (repeat (first | exact Below.refl _ _ | assumption | refine Below.drew ?_ | refine up_drewN ?_ _ | refine up_alloc ?_ _ | refine up_set ?_ _ _ (by first | exact Nat.le_refl _ | (simp; done) | (simp; omega) | omega) | refine up_trans ?_ (by assumption)))
  have p1 : ¬ ((q + 7 * n : Nat) : Int) < 0 := by omega
  clear hb T
  go_wp2_with fail
  go_ret
  exact ⟨rfl, hW⟩

end Go.Proofs.YtbjlkdenkmbepaaGreatDoor
