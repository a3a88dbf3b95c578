/- What is proved here: contracts of the reference's numbers and sums, and of the program's sums. No condition. -/
import Derived.Test.YtdngdlcibaiekaaGreatDoorRc1
import Derived.Test.YtdngdlcibaiekaaGreatDoorMark
namespace Go.Proofs.YtdngdlcibaiekaaGreatDoor
open Go.RowKit
set_option linter.unusedVariables false

/-- all digits but the last. -/
def hiD (q : Nat) : List UInt8 := if q < 10 then [] else nm (q / 10)
theorem nm_hi (q : Nat) : nm q = hiD q ++ [dg q] := by
  unfold hiD
  split
  · rename_i h
    rw [nm_small h]
    unfold dg
    rw [Nat.mod_eq_of_lt h]
    rfl
  · rename_i h
    rw [nm_big h]
    rfl

set_option maxRecDepth 100000 in
set_option maxHeartbeats 400000 in
theorem l22Number_any (n : Nat) (w : World) (hn : n < 1000) :
    Calls Tryz.prog 52 #[.int .i64 n] w fun e w' => e = .returned (S (nm n)) ∧ Below w.heap.size w w' := by
  have hd := digit_str
  have hl := nm_len hn
  go_enter Tryz.func52, Tryz.ntmps52
  go_wp2_with fail
  go_loopw [0, 3] (fun i s wr => ∃ (q : Nat) (o : List UInt8), q < 1000 ∧ o.length ≤ 3 ∧ i = .int .i64 q ∧ s = S o ∧ Hid (nm n = hiD q ++ o) ∧ Below w.heap.size w wr) (fun i _ _ => (intOf i).toNat)
  case atStart => exact ⟨n, [dg n], hn, by simp, rfl, rfl, Lib.hid (nm_hi n), by (repeat (first | exact Below.refl _ _ | assumption | refine Below.drew ?_ | refine up_drewN ?_ _ | refine up_alloc ?_ _ | refine up_set ?_ _ _ (by first | exact Nat.le_refl _ | (simp; done) | (simp; omega) | omega) | refine up_trans ?_ (by assumption)))⟩
  case round =>
    obtain ⟨q, o, hq, ho, rfl, rfl, heq, hW⟩ := hrel
    by_cases hlt : 9 < q
    · have i1 : (9 : Int) < (q : Int) := by omega
      have HS := Lib.hid (show nm n = hiD (q / 10) ++ (dg (q / 10) :: o) by
        rw [heq.out, show hiD q = nm (q / 10) from if_neg (by omega), nm_hi (q / 10)]
        simp)
      have hlen : o.length + 1 ≤ 3 := by
        have := congrArg List.length HS.out
        simp at this
        omega
      have e1 : IntKind.i64.wrap ((q : Int).tdiv 10) = ((q / 10 : Nat) : Int) := by rw [Int.tdiv_eq_ediv_of_nonneg (by omega), IntWalk.i64_in _ (by omega)]; omega
      have hd2 := hd wr (q / 10)
      rw [show ((q / 10 : Nat) : Int) = (q : Int) / 10 by omega] at hd2
      clear e1
      go_wp2_with fail
      go_roundw
      case rel => exact ⟨q / 10, dg (q / 10) :: o, by omega, by simp; omega, by go_num, rfl, HS, by (repeat (first | exact Below.refl _ _ | assumption | refine Below.drew ?_ | refine up_drewN ?_ _ | refine up_alloc ?_ _ | refine up_set ?_ _ _ (by first | exact Nat.le_refl _ | (simp; done) | (simp; omega) | omega) | refine up_trans ?_ (by assumption)))⟩
      case measure => simp [intOf]; omega
    · have i1 : ¬ (9 : Int) < (q : Int) := by omega
      have HE := Lib.hid (show nm n = o by rw [heq.out, show hiD q = [] from if_pos (by omega)]; rfl)
      go_wp2_with fail
      go_ret
      rw [HE.out]
      exact ⟨rfl, hW⟩

set_option maxRecDepth 100000 in
theorem l22Sum_any (s : List UInt8) (w : World) (hs : s.length ≤ maxLen) :
    Calls Tryz.prog 53 #[S s] w fun e w' => e = .returned (.int .i64 (smS 0 s : Nat)) ∧ w = w' := by
  unfold maxLen at hs
  obtain ⟨z, hz⟩ : ∃ z, z = smS 0 s := ⟨_, rfl⟩
  have HZ := Lib.hid hz
  rw [← hz]
  clear hz
  go_enter Tryz.func53, Tryz.ntmps53
  go_wp2_with fail
  go_loop [3, 4] (fun n i => ∃ (k q : Nat), k ≤ s.length ∧ i = .int .i64 k ∧ n = .int .i64 q ∧ q < 997 ∧ Hid (q = smS 0 (s.take k))) (fun _ i => s.length - (intOf i).toNat)
  case atStart => exact ⟨0, 0, Nat.zero_le _, rfl, rfl, by omega, Lib.hid rfl⟩
  case round =>
    obtain ⟨k, q, hk, rfl, rfl, hq, HQ⟩ := hrel
    by_cases hlt : k < s.length
    · have i1 : (0 : Int) ≤ (k : Int) := by omega
      have i2 : (k : Int) < (s.length : Int) := by omega
      have HS := Lib.hid (show (31 * q + (s[k]).toNat) % 997 = smS 0 (s.take (k + 1)) by rw [List.take_succ_eq_append_getElem hlt, smS_snoc, HQ.out])
      have hc2 := UInt8.toNat_lt s[k]
      go_wp2_with fail
      go_round
      case rel => exact ⟨k + 1, (31 * q + (s[k]).toNat) % 997, by omega, by go_num, by go_num, by omega, HS⟩
      case measure => simp [intOf]; omega
    · obtain rfl : k = s.length := by omega
      have HF := Lib.hid (show z = q by rw [HZ.out, HQ.out, List.take_length])
      go_wp2_with fail
      go_ret
      exact ⟨ret_int (by rw [HF.out]), rfl⟩

end Go.Proofs.YtdngdlcibaiekaaGreatDoor
