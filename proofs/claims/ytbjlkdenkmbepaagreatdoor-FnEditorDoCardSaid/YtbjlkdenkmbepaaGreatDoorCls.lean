/- What is proved here: contracts of class, l8Kind, skip, nameValid, l24Name. No condition. -/
import Derived.Test.YtbjlkdenkmbepaaGreatDoorBase
import Derived.Test.YtbjlkdenkmbepaaGreatDoorText1
namespace Go.Proofs.YtbjlkdenkmbepaaGreatDoor
open Go.RowKit

theorem class_any (c : Int) (w : World) :
    Calls Tryz.prog 143 #[.int .u8 c] w fun e w' => e = .returned (.int .i64 (cls c)) ∧ w = w' := by
  obtain ⟨q, hq⟩ : ∃ q, q = cls c := ⟨_, rfl⟩
  rw [← hq]
  have hq2 : q = if c = 32 ∨ c = 10 then 0 else if (48 ≤ c ∧ c ≤ 57) ∨ (97 ≤ c ∧ c ≤ 122) ∨ (65 ≤ c ∧ c ≤ 90) then 1 else 2 := hq
  clear hq
  have HQ := Lib.hid hq2
  clear hq2
  go_enter Tryz.func143, Tryz.ntmps143
  go_wp2
  all_goals
    go_ret
    refine ⟨ret_int ?_, rfl⟩
    rw [HQ.out]
    simp_all
    try omega

theorem l8Kind_any (c : Int) (w : World) :
    Calls Tryz.prog 92 #[.int .u8 c] w fun e w' => e = .returned (.int .i64 (cls c)) ∧ w = w' := by
  obtain ⟨q, hq⟩ : ∃ q, q = cls c := ⟨_, rfl⟩
  rw [← hq]
  have hq2 : q = if c = 32 ∨ c = 10 then 0 else if (48 ≤ c ∧ c ≤ 57) ∨ (97 ≤ c ∧ c ≤ 122) ∨ (65 ≤ c ∧ c ≤ 90) then 1 else 2 := hq
  clear hq
  have HQ := Lib.hid hq2
  clear hq2
  go_enter Tryz.func92, Tryz.ntmps92
  go_wp2
  all_goals
    go_ret
    refine ⟨ret_int ?_, rfl⟩
    rw [HQ.out]
    simp_all
    try omega

theorem skip_any (l : List UInt8) (p : Nat) (k : Int) (w : World) (hs : l.length ≤ maxLen) (hp : p ≤ l.length) :
    Calls Tryz.prog 145 #[.string ⟨l.toArray⟩, .int .i64 p, .int .i64 k] w fun e w' => e = .returned (.int .i64 (skipN l p k)) ∧ w = w' := by
  have hs' : l.length ≤ 9223372036854775807 := by unfold maxLen at hs; omega
  go_enter Tryz.func145, Tryz.ntmps145
  go_wp2_with fail
  go_loop [1] (fun i => ∃ q : Nat, p ≤ q ∧ q ≤ l.length ∧ i = .int .i64 q ∧ Hid (skipN l p k = skipN l q k)) (fun i => l.length - (intOf i).toNat)
  case atStart => exact ⟨p, Nat.le_refl _, hp, rfl, Lib.hid rfl⟩
  case round =>
    obtain ⟨q, hq0, hq, rfl, heq⟩ := hrel
    by_cases hlt : q < l.length
    · have i1 : (0 : Int) ≤ (q : Int) := by omega
      have i2 : (q : Int) < (l.length : Int) := by omega
      rcases hc : (clsC l[q] == k) with _ | _
      · have hst := Lib.hid (skipN_stop l q k hlt (by simpa using hc))
        have hc' : (cls ((l[q].toNat : Nat) : Int) == k) = false := hc
        clear hc
        go_wp2_with (go_at_call 143; refine (class_any _ _).mono ?_; rintro e w1 ⟨rfl, rfl⟩)
        go_ret
        exact ⟨ret_int (by rw [heq.out, hst.out]), rfl⟩
      · have hst := Lib.hid (skipN_step l q k hlt (by simpa using hc))
        have hc' : (cls ((l[q].toNat : Nat) : Int) == k) = true := hc
        clear hc
        go_wp2_with (go_at_call 143; refine (class_any _ _).mono ?_; rintro e w1 ⟨rfl, rfl⟩)
        go_round
        case rel => exact ⟨q + 1, by omega, by omega, by go_num, Lib.hid (by rw [heq.out, hst.out])⟩
        case measure => simp [intOf]; omega
    · obtain rfl : q = l.length := by omega
      go_wp2_with fail
      go_ret
      exact ⟨ret_int (by rw [heq.out, skipN_end _ _ _ (Nat.le_refl _)]), rfl⟩



end Go.Proofs.YtbjlkdenkmbepaaGreatDoor
