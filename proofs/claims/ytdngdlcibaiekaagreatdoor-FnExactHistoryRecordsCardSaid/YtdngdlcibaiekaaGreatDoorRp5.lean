/- What is proved here: the contract of (*strings.Replacer).Replace behind NewReplacer, and the sum of bytes of the program. No condition. -/
import Derived.Test.YtdngdlcibaiekaaGreatDoorRp4
namespace Go.Proofs.YtdngdlcibaiekaaGreatDoor
open Go.RowKit
set_option linter.unusedVariables false

set_option maxRecDepth 100000 in
set_option maxHeartbeats 1000000 in
theorem replace_any (R q o c : Nat) (p : List UInt8) (w : World) (hR : IsB w R #[.int .u32 0, .int .i32 0, .int .u32 0, .nilIface, .slice (some ⟨q, o, none⟩) 4 c]) (hO : OldAt w q o) (hq : q ≠ R) (hp : p.length ≤ 120) :
    Calls Tryz.prog 47 #[.pointer (some ⟨R, 0, none⟩), S p] w fun e w' => e = .returned (S (esc p)) ∧ ∀ n, n ≤ R → Below n w w' := by
  have HD := Lib.hid (do_any R q o c w hR hO hq)
  have hRz := hR.2.2
  have hmf : ∀ (fn : Fn) (first cap : Array Value) (w : World), (Instr.makeFunc fn first cap).run Tryz.prog w = .ok (.func fn first cap) w := fun _ _ _ _ => rfl
  clear hR hO
  go_enter Tryz.func47, Tryz.ntmps47
  go_wp2_with fail
  refine HD.out.mono ?_
  rintro e w1 ⟨B, rfl, h3, hT, hB⟩
  have HB := Lib.hid hB
  have HT := Lib.hid (bsReplace_any B p w1 hT hp)
  clear hB hT
  go_wp2_with fail
  refine HT.out.mono ?_
  rintro e w2 ⟨rfl, hb⟩
  have HB2 := Lib.hid (fun n (hn : n ≤ R) => (HB.out n hn).trans (hb.mono (by have := (HB.out n hn).size; omega)))
  clear hb
  go_wp2_with fail
  go_ret
  exact ⟨rfl, HB2.out⟩

set_option maxRecDepth 100000 in
theorem sumOf_any (s : List UInt8) (w : World) (hs : s.length ≤ maxLen) :
    Calls Tryz.prog 49 #[S s] w fun e w' => e = .returned (.int .i64 (smS 0 s : Nat)) ∧ w = w' := by
  unfold maxLen at hs
  obtain ⟨z, hz⟩ : ∃ z, z = smS 0 s := ⟨_, rfl⟩
  have HZ := Lib.hid hz
  rw [← hz]
  clear hz
  go_enter Tryz.func49, Tryz.ntmps49
  go_wp2_with fail
  go_loop [3, 7] (fun n i => ∃ (k q : Nat), k ≤ s.length ∧ i = .int .i64 k ∧ n = .int .i64 q ∧ q < 997 ∧ Hid (q = smS 0 (s.take k))) (fun _ i => s.length - (intOf i).toNat)
  case atStart => exact ⟨0, 0, Nat.zero_le _, rfl, rfl, by omega, Lib.hid rfl⟩
  case round =>
    obtain ⟨k, q, hk, rfl, rfl, hq, HQ⟩ := hrel
    by_cases hlt : k < s.length
    · have i1 : (0 : Int) ≤ (k : Int) := by omega
      have i2 : (k : Int) < (s.length : Int) := by omega
      have HS := Lib.hid (show (31 * q + (s[k]).toNat) % 997 = smS 0 (s.take (k + 1)) by rw [List.take_succ_eq_append_getElem hlt, smS_snoc, HQ.out])
      have hc2 := UInt8.toNat_lt s[k]
      go_wp2_with fail
      go_round
      case rel => exact ⟨k + 1, (31 * q + (s[k]).toNat) % 997, by omega, by go_num, by go_num, by omega, HS⟩
      case measure => simp [intOf]; omega
    · obtain rfl : k = s.length := by omega
      have HF := Lib.hid (show z = q by rw [HZ.out, HQ.out, List.take_length])
      go_wp2_with fail
      go_ret
      exact ⟨ret_int (by rw [HF.out]), rfl⟩

end Go.Proofs.YtdngdlcibaiekaaGreatDoor
