/- What is proved here: contracts of markPieceS, heldPieceS, and of the laws' functions on tables. No condition. -/
import Derived.Test.YtlejfmngpbcdhaaTab1
namespace Go.Proofs.Ytlejfmngpbcdhaa
open Go.RowKit
set_option linter.unusedVariables false

/-- the piece that is marked from mark p on. -/
def mkPc (p : Nat) : Pc := ⟨false, (p + 1 : Nat), (p + 1 + 1 : Nat)⟩
def mkP (n : Nat) : List Pc := (List.range n).map fun i => mkPc (1 + 3 * i)
theorem mkP_len (n : Nat) : (mkP n).length = n := by simp [mkP]
theorem mkP_succ (n : Nat) : mkP (n + 1) = mkP n ++ [mkPc (1 + 3 * n)] := by simp [mkP, List.range_succ]
theorem mkP_at (n k : Nat) (hk : k < (mkP n).length) : (mkP n)[k] = mkPc (1 + 3 * k) := by simp [mkP]

set_option maxRecDepth 100000 in
set_option maxHeartbeats 2000000 in
theorem markPieceS_any (base : Nat) (v : Value) (n : Nat) (xs : List Value) (w : World) (hn : n ≤ 1048576) (ho : Own w base 79 3 v n xs) :
    Calls Try.prog 62 #[v, .int .i64 1] w fun e w' => e = .returned (.int .i64 ((1 + 3 * n : Nat) : Int)) ∧ Own w' base 79 3 v n ((mkP n).flatMap pcC) ∧ w.grownBy w' v.ownBlock := by
  rcases ho.2 with ⟨rfl, rfl⟩ | ⟨g, cap, cur, rfl, hbg, hh, hnc, hcm, hcs, htake⟩
  · go_enter Try.func62, Try.ntmps62
    go_wp2_with fail
    refine wp_loop_rounds 1 ?_
    rw [rounds_succ]
    go_wp2_with fail
    go_ret
    exact ⟨ret_int (by omega), by simpa [mkP] using World.ownsRow_nil _ _ _ _, World.grownBy.refl _ _⟩
  · have hlen := ho.1
    clear hh hcs htake hbg
    go_enter Try.func62, Try.ntmps62
    go_wp2_with fail
    go_loopw [1, 5] (fun q' i wr => ∃ k : Nat, k ≤ n ∧ i = .int .i64 k ∧ q' = .int .i64 ((1 + 3 * k : Nat) : Int) ∧ Own wr base 79 3 (.slice (some ⟨g, 0, none⟩) n cap) n ((mkP k).flatMap pcC ++ xs.drop (k * 3)) ∧ w.grownBy wr (some g)) (fun _ i _ => n - (intOf i).toNat)
    case atStart => exact ⟨0, Nat.zero_le _, rfl, rfl, by simpa [mkP] using ho, World.grownBy.refl _ _⟩
    case round =>
      obtain ⟨k, hk, rfl, rfl, how, hgr⟩ := hrel
      by_cases hlt : k < n
      · obtain ⟨p, hp⟩ : ∃ p, p = 1 + 3 * k := ⟨_, rfl⟩
        rw [← hp]
        have hp1 : 1 ≤ p := by omega
        have hp2 : p ≤ 3145828 := by omega
        have hr : (((p : Int) % 3) == 0) = false := beq_eq_false_iff_ne.2 (by omega)
        have HP := Lib.hid hp
        clear hp ho
        have i1 : (0 : Int) ≤ (k : Int) := by omega
        have i2 : (k : Int) < (n : Int) := by omega
        have hgw : g < wr.heap.size := (how.lt g rfl).2
        obtain ⟨u0, d0⟩ := own_some how (show k * 3 < n * 3 by omega)
        obtain ⟨u1, d1⟩ := own_some how (show k * 3 + 1 < n * 3 by omega)
        obtain ⟨u2, d2⟩ := own_some how (show k * 3 + 2 < n * 3 by omega)
        have f0 := how.frozenAt (k * 3)
        have f1 := how.frozenAt (k * 3 + 1)
        have f2 := how.frozenAt (k * 3 + 2)
        have HO1 := Lib.hid ((((how.stored (k * 3) (.bool false)).1.stored (k * 3 + 1) (.int .i64 ((p + 1 : Nat) : Int))).1.stored (k * 3 + 2) (.int .i64 ((p + 1 + 1 : Nat) : Int))).1)
        have HG1 := Lib.hid (gb_here (gb_here (gb_here hgr rfl _) rfl _) rfl _ : w.grownBy (((wr.setCell ⟨g, k * 3, none⟩ (.bool false)).setCell ⟨g, k * 3 + 1, none⟩ (.int .i64 ((p + 1 : Nat) : Int))).setCell ⟨g, k * 3 + 2, none⟩ (.int .i64 ((p + 1 + 1 : Nat) : Int))) (some g))
        clear how hgr
        go_wp2_with fail
        go_roundw
        case rel =>
          refine ⟨k + 1, by omega, by go_num, by rw [show 1 + 3 * (k + 1) = p + 1 + 1 + 1 by rw [HP.out]; omega]; go_num, ?_, HG1.out⟩
          have := HO1.out
          rw [set3 _ _ _ _ _ (k * 3) (by rw [flat_len pcC 3 pcC_len, mkP_len]) (by rw [List.length_drop, hlen]; omega), List.drop_drop] at this
          rw [mkP_succ, List.flatMap_append, show (k + 1) * 3 = k * 3 + 3 by omega, ← HP.out]
          exact this
        case measure => simp [intOf]; omega
      · obtain rfl : k = n := by omega
        have Ho := Lib.hid how
        have Hg := Lib.hid hgr
        clear ho how hgr
        go_wp2_with fail
        go_ret
        refine ⟨rfl, ?_, Hg.out⟩
        have := Ho.out
        rwa [List.drop_of_length_le (by omega), List.append_nil] at this

set_option maxRecDepth 100000 in
set_option maxHeartbeats 2000000 in
theorem heldPieceS_any (v : Value) (n : Nat) (w : World) (hn : n ≤ 1048576) (hu : RdP w v (mkP n)) :
    Calls Try.prog 63 #[v, .int .i64 1] w fun e w' => e = .returned (.int .i64 ((1 + 3 * n : Nat) : Int)) ∧ Below w.heap.size w w' := by
  obtain ⟨A, c, rfl, _, _⟩ := hu.form
  have hml := mkP_len n
  rw [hml]
  rw [hml] at hu
  go_enter Try.func63, Try.ntmps63
  go_wp2_with fail
  go_loopw [1, 5] (fun q' i wr => ∃ k : Nat, k ≤ n ∧ i = .int .i64 k ∧ q' = .int .i64 ((1 + 3 * k : Nat) : Int) ∧ Below w.heap.size w wr) (fun _ i _ => n - (intOf i).toNat)
  case atStart => exact ⟨0, Nat.zero_le _, rfl, rfl, Below.refl _ _⟩
  case round =>
    obtain ⟨k, hk, rfl, rfl, hW⟩ := hrel
    by_cases hlt : k < n
    · have hlt' : k < (mkP n).length := by rw [hml]; exact hlt
      obtain ⟨b, o, rfl, hb, hc⟩ := (hu.up hW).cells pcC_len hlt'
      rw [mkP_at n k hlt'] at hc
      have c0 := hc 0 _ rfl
      have c1 := hc 1 _ rfl
      have c2 := hc 2 _ rfl
      simp only [Nat.add_zero, mkPc] at c0 c1 c2
      clear hc hu hlt'
      obtain ⟨p, hp⟩ : ∃ p, p = 1 + 3 * k := ⟨_, rfl⟩
      rw [← hp] at c1 c2
      rw [← hp]
      have hp1 : 1 ≤ p := by omega
      have hp2 : p ≤ 3145828 := by omega
      have hr : (((p : Int) % 3) == 0) = false := beq_eq_false_iff_ne.2 (by omega)
      have HP := Lib.hid hp
      clear hp
      have i1 : (0 : Int) ≤ (k : Int) := by omega
      have i2 : (k : Int) < (n : Int) := by omega
      go_wp2_with fail
      go_roundw
      case rel => exact ⟨k + 1, by omega, by go_num, by rw [show 1 + 3 * (k + 1) = p + 1 + 1 + 1 by rw [HP.out]; omega]; go_num, hW⟩
      case measure => simp [intOf]; omega
    · obtain rfl : k = n := by omega
      go_wp2_with fail
      go_ret
      exact ⟨rfl, hW⟩

/-- a table as a value. -/
def tbAgg (f m : List UInt8) (v : Value) : Value := .agg #[S f, S m, v]
set_option maxRecDepth 100000 in
set_option maxHeartbeats 1000000 in
theorem szPieceS_any (v : Value) (ps : List Pc) (q : Int) (w : World) (h : RdP w v ps) (h0 : 0 ≤ q) (h1 : q ≤ 1048576) :
    Calls Try.prog 51 #[v, .int .i64 q] w fun e w' => e = .returned (.int .i64 (if q < ps.length then -1 else q - ps.length)) ∧ Below w.heap.size w w' := by
  obtain ⟨A, c, rfl, hm, _⟩ := h.form
  unfold maxLen at hm
  by_cases hn : q < ps.length
  · rw [if_pos hn]
    go_enter Try.func51, Try.ntmps51
    go_wp2_with fail
    go_ret
    exact ⟨rfl, by (repeat (first | exact Below.refl _ _ | assumption | refine Below.drew ?_ | refine up_drewN ?_ _ | refine up_alloc ?_ _ | refine up_set ?_ _ _ (by first | exact Nat.le_refl _ | (simp; done) | (simp; omega) | omega) | refine up_trans ?_ (by assumption)))⟩
  · rw [if_neg hn]
    go_enter Try.func51, Try.ntmps51
    go_wp2_with fail
    go_ret
    exact ⟨rfl, by (repeat (first | exact Below.refl _ _ | assumption | refine Below.drew ?_ | refine up_drewN ?_ _ | refine up_alloc ?_ _ | refine up_set ?_ _ _ (by first | exact Nat.le_refl _ | (simp; done) | (simp; omega) | omega) | refine up_trans ?_ (by assumption)))⟩
/-- a table that is not too large. -/
def SmallT (f m : List UInt8) (ps : List Pc) : Prop := f.length ≤ 1048576 ∧ m.length ≤ 1048576 ∧ ps.length ≤ 1048576
def SzTPost (f m : List UInt8) (ps : List Pc) (w : World) (e : Ending) (w' : World) : Prop := ∃ r : Int, e = .returned (.int .i64 r) ∧ r ≤ 1048576 ∧ (0 ≤ r → SmallT f m ps) ∧ Below w.heap.size w w'
set_option maxRecDepth 100000 in
set_option maxHeartbeats 1000000 in
theorem szTable_any (f m : List UInt8) (v : Value) (ps : List Pc) (w : World) (h : RdP w v ps) (hf : f.length ≤ maxLen) (hm : m.length ≤ maxLen) :
    Calls Try.prog 18 #[tbAgg f m v, .int .i64 1048576] w (SzTPost f m ps w) := by
  obtain ⟨A, c, rfl, hpl, _⟩ := h.form
  unfold tbAgg
  unfold maxLen at hf hm
  by_cases h1 : 1048576 < f.length
  · go_enter Try.func18, Try.ntmps18
    go_wp2_with fail
    go_ret
    exact ⟨-1, rfl, by omega, fun h => absurd h (by omega), by (repeat (first | exact Below.refl _ _ | assumption | refine Below.drew ?_ | refine up_drewN ?_ _ | refine up_alloc ?_ _ | refine up_set ?_ _ _ (by first | exact Nat.le_refl _ | (simp; done) | (simp; omega) | omega) | refine up_trans ?_ (by assumption)))⟩
  by_cases h2 : 1048576 - (f.length : Int) < m.length
  · go_enter Try.func18, Try.ntmps18
    go_wp2_with fail
    go_ret
    exact ⟨-1, rfl, by omega, fun h => absurd h (by omega), by (repeat (first | exact Below.refl _ _ | assumption | refine Below.drew ?_ | refine up_drewN ?_ _ | refine up_alloc ?_ _ | refine up_set ?_ _ _ (by first | exact Nat.le_refl _ | (simp; done) | (simp; omega) | omega) | refine up_trans ?_ (by assumption)))⟩
  obtain ⟨d, hd⟩ : ∃ d : Int, d = 1048576 - (f.length : Int) - (m.length : Int) := ⟨_, rfl⟩
  have g1 : 0 ≤ d := by omega
  have g2 : d ≤ 1048576 := by omega
  have Z := Lib.hid (fun (w' : World) (hb : Below w.heap.size w w') => szPieceS_any (.slice A ps.length c) ps d w' (h.up hb) g1 g2)
  rw [hd] at Z
  clear h
  by_cases h3 : d < ps.length
  · rw [← hd, if_pos h3] at Z
    rw [hd] at Z
    go_enter Try.func18, Try.ntmps18
    go_wp2_with fail
    refine (Z.out _ (by (repeat (first | exact Below.refl _ _ | assumption | refine Below.drew ?_ | refine up_drewN ?_ _ | refine up_alloc ?_ _ | refine up_set ?_ _ _ (by first | exact Nat.le_refl _ | (simp; done) | (simp; omega) | omega) | refine up_trans ?_ (by assumption))))).mono ?_
    rintro e w1 ⟨rfl, hb⟩
    have hW : Below w.heap.size w w1 := by (repeat (first | exact Below.refl _ _ | assumption | refine Below.drew ?_ | refine up_drewN ?_ _ | refine up_alloc ?_ _ | refine up_set ?_ _ _ (by first | exact Nat.le_refl _ | (simp; done) | (simp; omega) | omega) | refine up_trans ?_ (by assumption)))
    clear hb Z
    go_wp2_with fail
    go_ret
    exact ⟨-1, rfl, by omega, fun h => absurd h (by omega), by (repeat (first | exact Below.refl _ _ | assumption | refine Below.drew ?_ | refine up_drewN ?_ _ | refine up_alloc ?_ _ | refine up_set ?_ _ _ (by first | exact Nat.le_refl _ | (simp; done) | (simp; omega) | omega) | refine up_trans ?_ (by assumption)))⟩
  · rw [← hd, if_neg h3] at Z
    have g3 : ¬ d - (ps.length : Int) < 0 := by omega
    have HS := Lib.hid (show SmallT f m ps from ⟨by omega, by omega, by omega⟩)
    have g4 : d - (ps.length : Int) ≤ 1048576 := by omega
    generalize d - (ps.length : Int) = r at *
    rw [hd] at Z
    go_enter Try.func18, Try.ntmps18
    go_wp2_with fail
    refine (Z.out _ (by (repeat (first | exact Below.refl _ _ | assumption | refine Below.drew ?_ | refine up_drewN ?_ _ | refine up_alloc ?_ _ | refine up_set ?_ _ _ (by first | exact Nat.le_refl _ | (simp; done) | (simp; omega) | omega) | refine up_trans ?_ (by assumption))))).mono ?_
    rintro e w1 ⟨rfl, hb⟩
    have hW : Below w.heap.size w w1 := by (repeat (first | exact Below.refl _ _ | assumption | refine Below.drew ?_ | refine up_drewN ?_ _ | refine up_alloc ?_ _ | refine up_set ?_ _ _ (by first | exact Nat.le_refl _ | (simp; done) | (simp; omega) | omega) | refine up_trans ?_ (by assumption)))
    clear hb Z
    go_wp2_with fail
    go_ret
    exact ⟨r, rfl, g4, fun _ => HS.out, by (repeat (first | exact Below.refl _ _ | assumption | refine Below.drew ?_ | refine up_drewN ?_ _ | refine up_alloc ?_ _ | refine up_set ?_ _ _ (by first | exact Nat.le_refl _ | (simp; done) | (simp; omega) | omega) | refine up_trans ?_ (by assumption)))⟩

end Go.Proofs.Ytlejfmngpbcdhaa
