/- What is proved here: facts and contracts that the walks above this text need. No condition. -/
import Derived.Test.YtbjlkdenkmbepaaGreatDoorBase
namespace Go.Proofs.YtbjlkdenkmbepaaGreatDoor
open Go.RowKit

/-- a byte that may stand in a text. -/
def okB (c : Int) : Bool := decide (c = 10) || (decide (32 ≤ c) && decide (c ≤ 126))
def okC (c : UInt8) : Bool := okB (c.toNat : Int)
/-- a text is valid. -/
def tv (l : List UInt8) : Bool := l.all okC && decide (l.length ≤ 120)
theorem tv_len {l : List UInt8} (h : tv l = true) : l.length ≤ 120 := by simp [tv] at h; exact h.2
theorem all_take_succ (l : List UInt8) (k : Nat) (h : k < l.length) : (l.take (k + 1)).all okC = ((l.take k).all okC && okC l[k]) := by
  rw [List.take_succ_eq_append_getElem h, List.all_append]; simp
theorem all_false_of (l : List UInt8) (k : Nat) (h : k < l.length) (hf : okC l[k] = false) : l.all okC = false := by
  rw [Bool.eq_false_iff]; intro ht
  rw [List.all_eq_true] at ht
  have := ht _ (List.getElem_mem h)
  rw [hf] at this; cases this

theorem isByte_any (c : Int) (w : World) :
    Calls Tryz.prog 88 #[.int .u8 c] w fun e w' => e = .returned (.bool (okB c)) ∧ w = w' := by
  have e : okB c = (decide (c = 10) || (decide (32 ≤ c) && decide (c ≤ 126))) := rfl
  rw [e]
  clear e
  go_enter Tryz.func88, Tryz.ntmps88
  go_wp2
  all_goals
    go_ret
    refine ⟨ret_bool ?_, rfl⟩
    rw [Bool.eq_iff_iff]
    simp
    try omega

theorem implTextValid_any (l : List UInt8) (w : World) (hs : l.length ≤ maxLen) :
    Calls Tryz.prog 53 #[.string ⟨l.toArray⟩] w fun e w' => e = .returned (.bool (tv l)) ∧ w = w' := by
  have hs' : l.length ≤ 9223372036854775807 := by unfold maxLen at hs; omega
  go_enter Tryz.func53, Tryz.ntmps53
  go_wp2_with fail
  go_loop [6] (fun i => ∃ k : Nat, k ≤ l.length ∧ i = .int .i64 k ∧ Hid ((l.take k).all okC = true)) (fun i => l.length - (intOf i).toNat)
  case atStart => exact ⟨0, Nat.zero_le _, rfl, Lib.hid (by simp)⟩
  case round =>
    obtain ⟨k, hk, rfl, hall⟩ := hrel
    by_cases hlt : k < l.length
    · rcases hc : okC l[k] with _ | _
      · have hfin := Lib.hid (all_false_of l k hlt hc)
        have hc' : okB ((l[k].toNat : Nat) : Int) = false := hc
        clear hc
        go_wp2_with (go_at_call 88; refine (isByte_any _ _).mono ?_; rintro e w1 ⟨rfl, rfl⟩)
        go_ret
        exact ⟨ret_bool (by simp [tv, hfin.out]), rfl⟩
      · have hfin := Lib.hid (all_take_succ l k hlt)
        have hc' : okB ((l[k].toNat : Nat) : Int) = true := hc
        have hc2 := Lib.hid hc
        clear hc
        go_wp2_with (go_at_call 88; refine (isByte_any _ _).mono ?_; rintro e w1 ⟨rfl, rfl⟩)
        go_round
        case rel => exact ⟨k + 1, by omega, by go_num, Lib.hid (by rw [hfin.out, hall.out, hc2.out]; rfl)⟩
        case measure => simp [intOf]; omega
    · obtain rfl : k = l.length := by omega
      go_wp2_with fail
      go_ret
      refine ⟨ret_bool ?_, rfl⟩
      have := hall.out
      rw [List.take_length] at this
      simp [tv, this]
      try omega

theorem l1Plain_any (l : List UInt8) (w : World) (hs : l.length ≤ maxLen) :
    Calls Tryz.prog 73 #[.string ⟨l.toArray⟩] w fun e w' => e = .returned (.bool (l.all okC)) ∧ w = w' := by
  have hs' : l.length ≤ 9223372036854775807 := by unfold maxLen at hs; omega
  go_enter Tryz.func73, Tryz.ntmps73
  go_wp2_with fail
  go_loop [3] (fun i => ∃ k : Nat, k ≤ l.length ∧ i = .int .i64 k ∧ Hid ((l.take k).all okC = true)) (fun i => l.length - (intOf i).toNat)
  case atStart => exact ⟨0, Nat.zero_le _, rfl, Lib.hid (by simp)⟩
  case round =>
    obtain ⟨k, hk, rfl, hall⟩ := hrel
    by_cases hlt : k < l.length
    · by_cases h10 : l[k].toNat = 10
      · have hfin := Lib.hid (all_take_succ l k hlt)
        have hc2 : Hid (okC l[k] = true) := Lib.hid (by simp [okC, okB, h10])
        have h10' : ((l[k].toNat : Nat) : Int) = 10 := by omega
        clear h10
        go_wp2_with (go_at_call 79; refine (l1In_any _ _ _ _).mono ?_; rintro e w1 ⟨rfl, rfl⟩)
        go_round
        case rel => exact ⟨k + 1, by omega, by go_num, Lib.hid (by rw [hfin.out, hall.out, hc2.out]; rfl)⟩
        case measure => simp [intOf]; omega
      · have h10' : ¬ ((l[k].toNat : Nat) : Int) = 10 := by omega
        have hlt256 : l[k].toNat < 256 := l[k].toNat_lt
        rcases hc : inB ((l[k].toNat : Nat) : Int) 32 126 with _ | _
        · have hfin := Lib.hid (all_false_of l k hlt (by simp only [okC, okB, h10', decide_false, Bool.false_or]; exact hc))
          clear h10
          go_wp2_with (go_at_call 79; refine (l1In_any _ _ _ _).mono ?_; rintro e w1 ⟨rfl, rfl⟩)
          go_ret
          exact ⟨ret_bool (by simp [hfin.out]), rfl⟩
        · have hfin := Lib.hid (all_take_succ l k hlt)
          have hc2 : Hid (okC l[k] = true) := Lib.hid (by simp only [okC, okB, h10', decide_false, Bool.false_or]; exact hc)
          clear h10
          go_wp2_with (go_at_call 79; refine (l1In_any _ _ _ _).mono ?_; rintro e w1 ⟨rfl, rfl⟩)
          go_round
          case rel => exact ⟨k + 1, by omega, by go_num, Lib.hid (by rw [hfin.out, hall.out, hc2.out]; rfl)⟩
          case measure => simp [intOf]; omega
    · obtain rfl : k = l.length := by omega
      go_wp2_with fail
      go_ret
      refine ⟨ret_bool ?_, rfl⟩
      have := hall.out
      rw [List.take_length] at this
      exact this.symm

theorem specTextValid_any (l : List UInt8) (w : World) (hs : l.length ≤ maxLen) :
    Calls Tryz.prog 32 #[.string ⟨l.toArray⟩] w fun e w' => e = .returned (.bool (tv l)) ∧ w = w' := by
  by_cases hl : l.length ≤ 120
  all_goals
    have e : tv l = (l.all okC && decide (l.length ≤ 120)) := rfl
    simp only [hl, decide_true, decide_false, Bool.and_true, Bool.and_false] at e
    rw [e]
    clear e
    go_enter Tryz.func32, Tryz.ntmps32
    go_wp2_with (go_at_call 73; refine (l1Plain_any _ _ hs).mono ?_; rintro e w1 ⟨rfl, rfl⟩)
    go_ret
    exact ⟨rfl, rfl⟩

end Go.Proofs.YtbjlkdenkmbepaaGreatDoor

namespace Go.Proofs.YtbjlkdenkmbepaaGreatDoor
open Go.RowKit

theorem class_any (c : Int) (w : World) :
    Calls Tryz.prog 143 #[.int .u8 c] w fun e w' => e = .returned (.int .i64 (cls c)) ∧ w = w' := by
  obtain ⟨q, hq⟩ : ∃ q, q = cls c := ⟨_, rfl⟩
  rw [← hq]
  have hq2 : q = if c = 32 ∨ c = 10 then 0 else if (48 ≤ c ∧ c ≤ 57) ∨ (97 ≤ c ∧ c ≤ 122) ∨ (65 ≤ c ∧ c ≤ 90) then 1 else 2 := hq
  clear hq
  have HQ := Lib.hid hq2
  clear hq2
  go_enter Tryz.func143, Tryz.ntmps143
  go_wp2
  all_goals
    go_ret
    refine ⟨ret_int ?_, rfl⟩
    rw [HQ.out]
    simp_all
    try omega

theorem l8Kind_any (c : Int) (w : World) :
    Calls Tryz.prog 92 #[.int .u8 c] w fun e w' => e = .returned (.int .i64 (cls c)) ∧ w = w' := by
  obtain ⟨q, hq⟩ : ∃ q, q = cls c := ⟨_, rfl⟩
  rw [← hq]
  have hq2 : q = if c = 32 ∨ c = 10 then 0 else if (48 ≤ c ∧ c ≤ 57) ∨ (97 ≤ c ∧ c ≤ 122) ∨ (65 ≤ c ∧ c ≤ 90) then 1 else 2 := hq
  clear hq
  have HQ := Lib.hid hq2
  clear hq2
  go_enter Tryz.func92, Tryz.ntmps92
  go_wp2
  all_goals
    go_ret
    refine ⟨ret_int ?_, rfl⟩
    rw [HQ.out]
    simp_all
    try omega

theorem skip_any (l : List UInt8) (p : Nat) (k : Int) (w : World) (hs : l.length ≤ maxLen) (hp : p ≤ l.length) :
    Calls Tryz.prog 145 #[.string ⟨l.toArray⟩, .int .i64 p, .int .i64 k] w fun e w' => e = .returned (.int .i64 (skipN l p k)) ∧ w = w' := by
  have hs' : l.length ≤ 9223372036854775807 := by unfold maxLen at hs; omega
  go_enter Tryz.func145, Tryz.ntmps145
  go_wp2_with fail
  go_loop [1] (fun i => ∃ q : Nat, p ≤ q ∧ q ≤ l.length ∧ i = .int .i64 q ∧ Hid (skipN l p k = skipN l q k)) (fun i => l.length - (intOf i).toNat)
  case atStart => exact ⟨p, Nat.le_refl _, hp, rfl, Lib.hid rfl⟩
  case round =>
    obtain ⟨q, hq0, hq, rfl, heq⟩ := hrel
    by_cases hlt : q < l.length
    · have i1 : (0 : Int) ≤ (q : Int) := by omega
      have i2 : (q : Int) < (l.length : Int) := by omega
      rcases hc : (clsC l[q] == k) with _ | _
      · have hst := Lib.hid (skipN_stop l q k hlt (by simpa using hc))
        have hc' : (cls ((l[q].toNat : Nat) : Int) == k) = false := hc
        clear hc
        go_wp2_with (go_at_call 143; refine (class_any _ _).mono ?_; rintro e w1 ⟨rfl, rfl⟩)
        go_ret
        exact ⟨ret_int (by rw [heq.out, hst.out]), rfl⟩
      · have hst := Lib.hid (skipN_step l q k hlt (by simpa using hc))
        have hc' : (cls ((l[q].toNat : Nat) : Int) == k) = true := hc
        clear hc
        go_wp2_with (go_at_call 143; refine (class_any _ _).mono ?_; rintro e w1 ⟨rfl, rfl⟩)
        go_round
        case rel => exact ⟨q + 1, by omega, by omega, by go_num, Lib.hid (by rw [heq.out, hst.out])⟩
        case measure => simp [intOf]; omega
    · obtain rfl : q = l.length := by omega
      go_wp2_with fail
      go_ret
      exact ⟨ret_int (by rw [heq.out, skipN_end _ _ _ (Nat.le_refl _)]), rfl⟩



end Go.Proofs.YtbjlkdenkmbepaaGreatDoor
