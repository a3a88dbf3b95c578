/- What is proved here: contracts of sameInts. No condition. -/
import Derived.Test.YtiimlnefighlgaaInts
namespace Go.Proofs.Ytiimlnefighlgaa
open Go.RowKit

/-- Two slices that read as the same numbers are equal. -/
theorem sameInts_same (u v : Value) (n : Nat) (xs : List Int) (w : World) (hu : Rd w 1 u n (xs.map (Value.int .i64))) (hv : Rd w 1 v n (xs.map (Value.int .i64))) :
    Calls Try.prog 43 #[u, v] w fun e w' => e = .returned (.bool true) ∧ Below w.heap.size w w' := by
  obtain ⟨hl, hn, A, c, rfl, hA⟩ := hu
  obtain ⟨_, _, B, d, rfl, hB⟩ := hv
  simp only [List.length_map, Nat.mul_one] at hl
  unfold maxLen at hn
  go_enter Try.func43, Try.ntmps43
  go_wp2_with fail
  go_loopw [5] (fun i wr => ∃ k : Nat, k ≤ n ∧ i = .int .i64 k ∧ Below w.heap.size w wr) (fun i _ => n - (intOf i).toNat)
  case atStart => exact ⟨0, Nat.zero_le _, rfl, Below.refl _ _⟩
  case round =>
    obtain ⟨k, hk, rfl, hb⟩ := hrel
    by_cases hlt : k < n
    · obtain ⟨b, o, rfl, hbb, hc⟩ := hA (by omega)
      obtain ⟨b', o', rfl, hbb', hc'⟩ := hB (by omega)
      have c1 := (hb.cell (p := ⟨b, o + k, none⟩) hbb).trans (hc k (.int .i64 xs[k]) (by simp [hl, hlt]))
      have c2 := (hb.cell (p := ⟨b', o' + k, none⟩) hbb').trans (hc' k (.int .i64 xs[k]) (by simp [hl, hlt]))
      clear hc hc' hA hB
      have i1 : (0 : Int) ≤ (k : Int) := by omega
      have i2 : (k : Int) < (n : Int) := by omega
      go_wp2_with fail
      go_quiet (fail)
      go_wp2_with fail
      go_roundw
      case rel => exact ⟨k + 1, by omega, by go_num, by (repeat (first | exact Below.refl _ _ | assumption | refine Below.drew ?_ | refine up_drewN ?_ _ | refine up_alloc ?_ _ | refine up_set ?_ _ _ (by first | exact Nat.le_refl _ | (simp; done) | (simp; omega) | omega) | refine up_trans ?_ (by assumption)))⟩
      case measure => simp [intOf]; omega
    · go_wp2_with fail
      go_ret
      exact ⟨rfl, hb⟩

theorem sameInts_up (u v : Value) (n : Nat) (q : Int) (w : World) (hu : Rd w 1 u n (upInts q n)) (hv : Rd w 1 v n (upInts q n)) :
    Calls Try.prog 43 #[u, v] w fun e w' => e = .returned (.bool true) ∧ Below w.heap.size w w' := by
  rw [upInts_eq] at hu hv
  exact sameInts_same u v n _ w hu hv

end Go.Proofs.Ytiimlnefighlgaa
