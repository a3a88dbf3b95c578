/- What is proved here: contracts of eqIntS, markIntS, heldIntS. No condition. -/
import Derived.Test.YtiimlnefighlgaaMem
import Derived.Deep.QuietTactic
import Derived.BigQuiet
namespace Go.Proofs.Ytiimlnefighlgaa
open Go.RowKit

/-- Two slices that read as the same numbers are equal. -/
theorem eqIntS_same (u v : Value) (n : Nat) (xs : List Int) (w : World) (hu : Rd w 1 u n (xs.map (Value.int .i64))) (hv : Rd w 1 v n (xs.map (Value.int .i64))) :
    Calls Try.prog 25 #[u, v] w fun e w' => e = .returned (.bool true) ∧ Below w.heap.size w w' := by
  obtain ⟨hl, hn, A, c, rfl, _, hA⟩ := hu
  obtain ⟨_, _, B, d, rfl, _, hB⟩ := hv
  simp only [List.length_map, Nat.mul_one] at hl
  unfold maxLen at hn
  go_enter Try.func25, Try.ntmps25
  go_wp2_with fail
  go_loopw [5] (fun i wr => ∃ k : Nat, k ≤ n ∧ i = .int .i64 k ∧ Below w.heap.size w wr) (fun i _ => n - (intOf i).toNat)
  case atStart => exact ⟨0, Nat.zero_le _, rfl, Below.refl _ _⟩
  case round =>
    obtain ⟨k, hk, rfl, hb⟩ := hrel
    by_cases hlt : k < n
    · obtain ⟨b, o, rfl, hbb, hc⟩ := hA (by omega)
      obtain ⟨b', o', rfl, hbb', hc'⟩ := hB (by omega)
      have c1 := (hb.cell (p := ⟨b, o + k, none⟩) hbb).trans (hc k (.int .i64 xs[k]) (by simp [hl, hlt]))
      have c2 := (hb.cell (p := ⟨b', o' + k, none⟩) hbb').trans (hc' k (.int .i64 xs[k]) (by simp [hl, hlt]))
      clear hc hc' hA hB
      have i1 : (0 : Int) ≤ (k : Int) := by omega
      have i2 : (k : Int) < (n : Int) := by omega
      go_wp2_with fail
      go_quiet (fail)
      go_wp2_with fail
      go_roundw
      case rel => exact ⟨k + 1, by omega, by go_num, by (repeat (first | exact Below.refl _ _ | assumption | refine Below.drew ?_ | refine up_drewN ?_ _ | refine up_alloc ?_ _ | refine up_set ?_ _ _ (by first | exact Nat.le_refl _ | (simp; done) | (simp; omega) | omega) | refine up_trans ?_ (by assumption)))⟩
      case measure => simp [intOf]; omega
    · go_wp2_with fail
      go_ret
      exact ⟨rfl, hb⟩

/-- k numbers from q on. -/
def upInts (q : Int) (k : Nat) : List Value := (List.range k).map fun (i : Nat) => .int .i64 (q + (i : Int))
theorem upInts_succ (q : Int) (k : Nat) : upInts q (k + 1) = upInts q k ++ [.int .i64 (q + k)] := by simp [upInts, List.range_succ]
theorem upInts_len (q : Int) (k : Nat) : (upInts q k).length = k := by simp [upInts]
theorem upInts_at (q : Int) (k n : Nat) (hk : k < n) : (upInts q n)[k]? = some (.int .i64 (q + k)) := by simp [upInts, hk]
theorem set_mid (a b : List Value) (u v : Value) (k : Nat) (h : a.length = k) : (a ++ u :: b).set k v = a ++ [v] ++ b := by
  subst h; simp
theorem drop_mid (xs : List Value) (k : Nat) (h : k < xs.length) : xs.drop k = xs[k] :: xs.drop (k + 1) := (List.drop_eq_getElem_cons h)

/-- Marking writes q, q + 1 .. into the row. -/
theorem markIntS_any (base : Nat) (v : Value) (n : Nat) (xs : List Value) (q : Int) (w : World) (hq : 0 ≤ q) (hq2 : q ≤ 1000000) (hn : n ≤ 1000000) (ho : Own w base 3 1 v n xs) :
    Calls Try.prog 26 #[v, .int .i64 q] w fun e w' => e = .returned (.int .i64 (q + n)) ∧ Own w' base 3 1 v n (upInts q n) ∧ w.grownBy w' v.ownBlock := by
  rcases ho.2 with ⟨rfl, rfl⟩ | ⟨g, cap, cur, rfl, hbg, hh, hnc, hcm, hcs, htake⟩
  · go_enter Try.func26, Try.ntmps26
    go_wp2_with fail
    refine wp_loop_rounds 1 ?_
    rw [rounds_succ]
    go_wp2_with fail
    go_ret
    exact ⟨ret_int (by omega), by simpa [upInts] using World.ownsRow_nil _ _ _ _, World.grownBy.refl _ _⟩
  · have hlen := ho.1
    simp only [Nat.mul_one] at hlen
    clear hh hcs htake hbg
    go_enter Try.func26, Try.ntmps26
    go_wp2_with fail
    go_loopw [1, 5] (fun q' i wr => ∃ k : Nat, k ≤ n ∧ i = .int .i64 k ∧ q' = .int .i64 (q + k) ∧ Own wr base 3 1 (.slice (some ⟨g, 0, none⟩) n cap) n (upInts q k ++ xs.drop k) ∧ w.grownBy wr (some g)) (fun _ i _ => n - (intOf i).toNat)
    case atStart => exact ⟨0, Nat.zero_le _, rfl, by simp, by simpa [upInts] using ho, World.grownBy.refl _ _⟩
    case round =>
      obtain ⟨k, hk, rfl, rfl, how, hgr⟩ := hrel
      by_cases hlt : k < n
      · have c0 := how.cellAt k (by omega)
        have f0 := how.frozenAt k
        rw [drop_mid xs k (by omega), List.getElem?_append_right (by rw [upInts_len]; exact Nat.le_refl _), upInts_len, Nat.sub_self] at c0
        simp only [List.getElem?_cons_zero] at c0
        have S := how.stored k (.int .i64 (q + k))
        rw [drop_mid xs k (by omega), set_mid _ _ _ _ k (upInts_len q k), ← upInts_succ] at S
        have i1 : (0 : Int) ≤ (k : Int) := by omega
        have i2 : (k : Int) < (n : Int) := by omega
        have HS := Lib.hid S
        have Hg := Lib.hid hgr
        clear S how hgr ho
        go_wp2_with fail
        go_roundw
        case rel => exact ⟨k + 1, by omega, by go_num, by go_num, HS.out.1, ⟨Hg.out.os, Hg.out.tape, Hg.out.output, Nat.le_trans Hg.out.size HS.out.2.size, fun j hj hne => (HS.out.2.block j (Nat.lt_of_lt_of_le hj Hg.out.size) hne).trans (Hg.out.block j hj hne)⟩⟩
        case measure => simp [intOf]; omega
      · obtain rfl : k = n := by omega
        have Ho := Lib.hid how
        have Hg := Lib.hid hgr
        clear ho how hgr
        go_wp2_with fail
        go_ret
        refine ⟨rfl, ?_, Hg.out⟩
        have := Ho.out
        rwa [List.drop_of_length_le (by omega), List.append_nil] at this

/-- What was marked is held. -/
theorem heldIntS_any (v : Value) (n : Nat) (q : Int) (w : World) (hq : 0 ≤ q) (hq2 : q ≤ 1000000) (hn : n ≤ 1000000) (hu : Rd w 1 v n (upInts q n)) :
    Calls Try.prog 27 #[v, .int .i64 q] w fun e w' => e = .returned (.int .i64 (q + n)) ∧ w = w' := by
  obtain ⟨hl, _, A, c, rfl, _, hA⟩ := hu
  go_enter Try.func27, Try.ntmps27
  go_wp2_with fail
  go_loop [1, 5] (fun q' i => ∃ k : Nat, k ≤ n ∧ i = .int .i64 k ∧ q' = .int .i64 (q + k)) (fun _ i => n - (intOf i).toNat)
  case atStart => exact ⟨0, Nat.zero_le _, rfl, by simp⟩
  case round =>
    obtain ⟨k, hk, rfl, rfl⟩ := hrel
    by_cases hlt : k < n
    · obtain ⟨b, o, rfl, hbb, hc⟩ := hA (by omega)
      have c1 := hc k _ (upInts_at q k n hlt)
      clear hc hA
      have i1 : (0 : Int) ≤ (k : Int) := by omega
      have i2 : (k : Int) < (n : Int) := by omega
      go_wp2_with fail
      go_round
      case rel => exact ⟨k + 1, by omega, by go_num, by go_num⟩
      case measure => simp [intOf]; omega
    · obtain rfl : k = n := by omega
      go_wp2_with fail
      go_ret
      exact ⟨rfl, rfl⟩

theorem upInts_eq (q : Int) (k : Nat) : upInts q k = ((List.range k).map fun (i : Nat) => q + (i : Int)).map (Value.int .i64) := by simp [upInts]
theorem eqInts_up (u v : Value) (n : Nat) (q : Int) (w : World) (hu : Rd w 1 u n (upInts q n)) (hv : Rd w 1 v n (upInts q n)) :
    Calls Try.prog 25 #[u, v] w fun e w' => e = .returned (.bool true) ∧ Below w.heap.size w w' := by
  rw [upInts_eq] at hu hv
  exact eqIntS_same u v n _ w hu hv

end Go.Proofs.Ytiimlnefighlgaa
