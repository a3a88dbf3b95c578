/- What is proved here: pieces in memory; contracts of szPieceS, toPieceS, eqPieceS, toTable, eqTable, szTable. No condition. -/
import Derived.Test.YtlejfmngpbcdhaaBuf4
import Derived.Test.YtlejfmngpbcdhaaArg2
namespace Go.Proofs.Ytlejfmngpbcdhaa
open Go.RowKit
set_option linter.unusedVariables false

/-- a piece: of what was added or of the first text, its start, its size. -/
structure Pc where
  ad : Bool
  st : Int
  sz : Int
def pcC (x : Pc) : List Value := [.bool x.ad, .int .i64 x.st, .int .i64 x.sz]
theorem pcC_len (x : Pc) : (pcC x).length = 3 := rfl
abbrev RdP (w : World) (v : Value) (ps : List Pc) : Prop := RdL w 3 pcC v ps
theorem rdP_cells {w : World} {A : Option Addr} {n c : Nat} {ps : List Pc} (h : RdP w (.slice A n c) ps) {k : Nat} (hk : k < ps.length) :
    ∃ b o, A = some ⟨b, o, none⟩ ∧ b < w.heap.size ∧ w.cell? ⟨b, o + k * 3, none⟩ = some (.bool ps[k].ad) ∧ w.cell? ⟨b, o + k * 3 + 1, none⟩ = some (.int .i64 ps[k].st) ∧ w.cell? ⟨b, o + k * 3 + 2, none⟩ = some (.int .i64 ps[k].sz) := by
  obtain ⟨b, o, hA, hb, hc⟩ := h.cells pcC_len hk
  exact ⟨b, o, hA, hb, hc 0 _ rfl, hc 1 _ rfl, hc 2 _ rfl⟩
theorem piece_info : (Try.prog.info? 79).map (fun i => (i.zero, i.size, i.bytes)) = some (some (.agg #[.bool false, .int .i64 0, .int .i64 0]), 3, 24) := by kernel_rfl
def pcAgg (x : Pc) : Value := .agg #[.bool x.ad, .int .i64 x.st, .int .i64 x.sz]
theorem pc_oneCell (ps : List Pc) : ∀ x ∈ ps.flatMap pcC, x.oneCell' = true := by
  intro x hx
  rw [List.mem_flatMap] at hx
  obtain ⟨m, _, hx⟩ := hx
  simp [pcC] at hx
  rcases hx with rfl | rfl | rfl <;> rfl

theorem toPiece_any (x : Pc) (w : World) :
    Calls Try.prog 89 #[.agg #[.bool x.ad, .int .i64 x.st, .int .i64 x.sz]] w fun e w' => e = .returned (.agg #[.bool x.ad, .int .i64 x.st, .int .i64 x.sz]) ∧ Below w.heap.size w w' := by
  go_enter Try.func89, Try.ntmps89
  go_wp2_with fail
  refine bodyPost_ret (v := .agg #[.bool x.ad, .int .i64 x.st, .int .i64 x.sz]) (by simp [results, Try.results89, go_sem]) rfl ⟨rfl, ?_⟩
  (repeat (first | exact Below.refl _ _ | assumption | refine Below.drew ?_ | refine up_drewN ?_ _ | refine up_alloc ?_ _ | refine up_set ?_ _ _ (by first | exact Nat.le_refl _ | (simp; done) | (simp; omega) | omega) | refine up_trans ?_ (by assumption)))

def ToPPost (bs : List Pc) (w : World) (e : Ending) (w' : World) : Prop := ∃ v, e = .returned v ∧ Own w' w.heap.size 79 3 v bs.length (bs.flatMap pcC) ∧ Below w.heap.size w w'

set_option maxHeartbeats 800000 in
theorem toPieceS_any (v : Value) (bs : List Pc) (w : World) (h : RdP w v bs) (hn : bs.length ≤ 1048576) :
    Calls Try.prog 56 #[v] w (ToPPost bs w) := by
  obtain ⟨A, c, rfl, _, _⟩ := h.form
  obtain ⟨i0, hi, hz0, hz1, hz2⟩ := info_parts piece_info
  go_enter Try.func56, Try.ntmps56
  go_wp2_with (at_make; refine wpList_make_full _ rfl _ _ 46 rfl w.heap.size 79 i0 _ 3 Try.underlying46 hi hz0 hz1 _ _ _ _ bs.length rfl rfl rfl rfl (by rw [hz2]; omega) (by unfold maxLen; omega) (Nat.le_refl _) ?_; intro w1 how hgr)
  have hW : Below w.heap.size w w1 := up_grown (Below.refl _ _) hgr (fun k hk => by cases hk)
  obtain ⟨ys, hys⟩ : ∃ ys, ys = (madeCells (Value.agg #[.bool false, .int .i64 0, .int .i64 0]).cells (bs.length * 3)).toList := ⟨_, rfl⟩
  rw [← hys] at how
  clear hys hgr hi hz0 hz1 hz2
  have HL := Lib.hid how.1
  have How := Lib.hid how
  clear how
  go_loopw [4] (fun i wr => ∃ k : Nat, k ≤ bs.length ∧ i = .int .i64 k ∧ Own wr w.heap.size 79 3 (.slice (some ⟨w.heap.size, 0, none⟩) bs.length bs.length) bs.length ((bs.take k).flatMap pcC ++ ys.drop (k * 3)) ∧ Below w.heap.size w wr) (fun i _ => bs.length - (intOf i).toNat)
  case atStart => exact ⟨0, Nat.zero_le _, rfl, by simpa using How.out, hW⟩
  case round =>
    obtain ⟨k, hk, rfl, how, hWr⟩ := hrel
    clear hW How
    by_cases hlt : k < bs.length
    · have i1 : (0 : Int) ≤ (k : Int) := by omega
      have i2 : (k : Int) < (bs.length : Int) := by omega
      obtain ⟨b, o, rfl, hb, c0, c1, c2⟩ := rdP_cells (h.up hWr) hlt
      have hts := Lib.hid (show (bs.take (k + 1)).flatMap pcC = (bs.take k).flatMap pcC ++ pcC bs[k] by rw [List.take_succ_eq_append_getElem hlt, List.flatMap_append]; simp)
      obtain ⟨x, hx⟩ : ∃ x, x = bs[k] := ⟨_, rfl⟩
      rw [← hx] at c0 c1 c2
      have HX := Lib.hid hx
      clear hx
      have How := Lib.hid how
      clear how
      go_wp2_with fail
      refine (toPiece_any x _).mono ?_
      rintro e w2 ⟨rfl, hb2⟩
      have how := own_up How.out hb2
      obtain ⟨u0, d0⟩ := own_some how (show k * 3 < bs.length * 3 by omega)
      obtain ⟨u1, d1⟩ := own_some how (show k * 3 + 1 < bs.length * 3 by omega)
      obtain ⟨u2, d2⟩ := own_some how (show k * 3 + 2 < bs.length * 3 by omega)
      have f0 := how.frozenAt (k * 3)
      have f1 := how.frozenAt (k * 3 + 1)
      have f2 := how.frozenAt (k * 3 + 2)
      have HS := Lib.hid (own_set3 how (by rw [flat_len pcC 3 pcC_len, List.length_take]; omega) hlt (.bool x.ad) (.int .i64 x.st) (.int .i64 x.sz))
      clear how
      have hW2 : Below w.heap.size w w2 := by (repeat (first | exact Below.refl _ _ | assumption | refine Below.drew ?_ | refine up_drewN ?_ _ | refine up_alloc ?_ _ | refine up_set ?_ _ _ (by first | exact Nat.le_refl _ | (simp; done) | (simp; omega) | omega) | refine up_trans ?_ (by assumption)))
      clear hb2 hWr
      go_wp2_with fail
      go_roundw
      case rel =>
        refine ⟨k + 1, by omega, by go_num, ?_, by (repeat (first | exact Below.refl _ _ | assumption | refine Below.drew ?_ | refine up_drewN ?_ _ | refine up_alloc ?_ _ | refine up_set ?_ _ _ (by first | exact Nat.le_refl _ | (simp; done) | (simp; omega) | omega) | refine up_trans ?_ (by assumption)))⟩
        have := HS.out
        rw [List.drop_drop] at this
        rw [hts.out, ← HX.out, show (k + 1) * 3 = k * 3 + 3 by omega]
        exact this
      case measure => simp [intOf]; omega
    · obtain rfl : k = bs.length := by omega
      have How := Lib.hid how
      clear how
      go_wp2_with fail
      go_ret
      refine ⟨_, rfl, ?_, hWr⟩
      have := How.out
      rwa [List.take_length, List.drop_of_length_le (by rw [HL.out]; exact Nat.le_refl _), List.append_nil] at this


theorem eqPiece_same (x : Pc) (w : World) :
    Calls Try.prog 93 #[.agg #[.bool x.ad, .int .i64 x.st, .int .i64 x.sz], .agg #[.bool x.ad, .int .i64 x.st, .int .i64 x.sz]] w fun e w' => e = .returned (.bool true) ∧ Below w.heap.size w w' := by
  go_enter Try.func93, Try.ntmps93
  go_wp2_with fail
  go_ret
  exact ⟨rfl, by (repeat (first | exact Below.refl _ _ | assumption | refine Below.drew ?_ | refine up_drewN ?_ _ | refine up_alloc ?_ _ | refine up_set ?_ _ _ (by first | exact Nat.le_refl _ | (simp; done) | (simp; omega) | omega) | refine up_trans ?_ (by assumption)))⟩

theorem eqPieceS_same (u v : Value) (bs : List Pc) (w : World) (hu : RdL w 3 pcC u bs) (hv : RdL w 3 pcC v bs) :
    Calls Try.prog 61 #[u, v] w fun e w' => e = .returned (.bool true) ∧ Below w.heap.size w w' := by
  obtain ⟨A, c, rfl, hm, _⟩ := hu.form
  obtain ⟨B, d, rfl, _, _⟩ := hv.form
  unfold maxLen at hm
  go_enter Try.func61, Try.ntmps61
  go_wp2_with fail
  go_loopw [5] (fun i wr => ∃ k : Nat, k ≤ bs.length ∧ i = .int .i64 k ∧ Below w.heap.size w wr) (fun i _ => bs.length - (intOf i).toNat)
  case atStart => exact ⟨0, Nat.zero_le _, rfl, Below.refl _ _⟩
  case round =>
    obtain ⟨k, hk, rfl, hW⟩ := hrel
    by_cases hlt : k < bs.length
    · have i1 : (0 : Int) ≤ (k : Int) := by omega
      have i2 : (k : Int) < (bs.length : Int) := by omega
      obtain ⟨b, o, rfl, hb, hc⟩ := (hu.up hW).cells pcC_len hlt
      obtain ⟨b', o', rfl, hb', hc'⟩ := (hv.up hW).cells pcC_len hlt
      have c0 := hc 0 _ rfl
      have c1 := hc 1 _ rfl
      have c2 := hc 2 _ rfl
      have d0 := hc' 0 _ rfl
      have d1 := hc' 1 _ rfl
      have d2 := hc' 2 _ rfl
      simp only [Nat.add_zero] at c0 d0
      clear hc hc'
      obtain ⟨x, hx⟩ : ∃ x, x = bs[k] := ⟨_, rfl⟩
      rw [← hx] at c0 c1 c2 d0 d1 d2
      clear hx
      have hne := UpW.nonempty wr
      have C1 := Lib.hid (fun y : UpW wr => calls_up (eqPiece_same x (y.at wr)))
      go_wp2_with fail
      refine wp_region_up_lit (by kernel_rfl) (by kernel_rfl) ?_
      repeat (go_big_quiet_step ((go_at_call 93; exact C1.out _)))
      refine wpQuiet_nil ?_
      intro w2 hb2
      replace hb2 := UpW.out hb2
      go_wp2_with fail
      go_roundw
      case rel => exact ⟨k + 1, by omega, by go_num, by (repeat (first | exact Below.refl _ _ | assumption | refine Below.drew ?_ | refine up_drewN ?_ _ | refine up_alloc ?_ _ | refine up_set ?_ _ _ (by first | exact Nat.le_refl _ | (simp; done) | (simp; omega) | omega) | refine up_trans ?_ (by assumption)))⟩
      case measure => simp [intOf]; omega
    · go_wp2_with fail
      go_ret
      exact ⟨rfl, hW⟩


end Go.Proofs.Ytlejfmngpbcdhaa
