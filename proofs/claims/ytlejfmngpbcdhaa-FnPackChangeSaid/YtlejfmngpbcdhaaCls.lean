/- What is proved here: contracts of class, l8Kind, skip, nameValid, l24Name. No condition. -/
import Derived.Test.YtlejfmngpbcdhaaFlat
import Derived.Test.YtlejfmngpbcdhaaText1
namespace Go.Proofs.Ytlejfmngpbcdhaa
open Go.RowKit

theorem class_any (c : Int) (w : World) :
    Calls Try.prog 102 #[.int .u8 c] w fun e w' => e = .returned (.int .i64 (cls c)) ∧ w = w' := by
  obtain ⟨q, hq⟩ : ∃ q, q = cls c := ⟨_, rfl⟩
  rw [← hq]
  have hq2 : q = if c = 32 ∨ c = 10 then 0 else if (48 ≤ c ∧ c ≤ 57) ∨ (97 ≤ c ∧ c ≤ 122) ∨ (65 ≤ c ∧ c ≤ 90) then 1 else 2 := hq
  clear hq
  have HQ := Lib.hid hq2
  clear hq2
  go_enter Try.func102, Try.ntmps102
  go_wp2
  all_goals
    go_ret
    refine ⟨ret_int ?_, rfl⟩
    rw [HQ.out]
    simp_all
    try omega

theorem l8Kind_any (c : Int) (w : World) :
    Calls Try.prog 86 #[.int .u8 c] w fun e w' => e = .returned (.int .i64 (cls c)) ∧ w = w' := by
  obtain ⟨q, hq⟩ : ∃ q, q = cls c := ⟨_, rfl⟩
  rw [← hq]
  have hq2 : q = if c = 32 ∨ c = 10 then 0 else if (48 ≤ c ∧ c ≤ 57) ∨ (97 ≤ c ∧ c ≤ 122) ∨ (65 ≤ c ∧ c ≤ 90) then 1 else 2 := hq
  clear hq
  have HQ := Lib.hid hq2
  clear hq2
  go_enter Try.func86, Try.ntmps86
  go_wp2
  all_goals
    go_ret
    refine ⟨ret_int ?_, rfl⟩
    rw [HQ.out]
    simp_all
    try omega

theorem skip_any (l : List UInt8) (p : Nat) (k : Int) (w : World) (hs : l.length ≤ maxLen) (hp : p ≤ l.length) :
    Calls Try.prog 83 #[.string ⟨l.toArray⟩, .int .i64 p, .int .i64 k] w fun e w' => e = .returned (.int .i64 (skipN l p k)) ∧ w = w' := by
  have hs' : l.length ≤ 9223372036854775807 := by unfold maxLen at hs; omega
  go_enter Try.func83, Try.ntmps83
  go_wp2_with fail
  go_loop [1] (fun i => ∃ q : Nat, p ≤ q ∧ q ≤ l.length ∧ i = .int .i64 q ∧ Hid (skipN l p k = skipN l q k)) (fun i => l.length - (intOf i).toNat)
  case atStart => exact ⟨p, Nat.le_refl _, hp, rfl, Lib.hid rfl⟩
  case round =>
    obtain ⟨q, hq0, hq, rfl, heq⟩ := hrel
    by_cases hlt : q < l.length
    · have i1 : (0 : Int) ≤ (q : Int) := by omega
      have i2 : (q : Int) < (l.length : Int) := by omega
      rcases hc : (clsC l[q] == k) with _ | _
      · have hst := Lib.hid (skipN_stop l q k hlt (by simpa using hc))
        have hc' : (cls ((l[q].toNat : Nat) : Int) == k) = false := hc
        clear hc
        go_wp2_with (go_at_call 102; refine (class_any _ _).mono ?_; rintro e w1 ⟨rfl, rfl⟩)
        go_ret
        exact ⟨ret_int (by rw [heq.out, hst.out]), rfl⟩
      · have hst := Lib.hid (skipN_step l q k hlt (by simpa using hc))
        have hc' : (cls ((l[q].toNat : Nat) : Int) == k) = true := hc
        clear hc
        go_wp2_with (go_at_call 102; refine (class_any _ _).mono ?_; rintro e w1 ⟨rfl, rfl⟩)
        go_round
        case rel => exact ⟨q + 1, by omega, by omega, by go_num, Lib.hid (by rw [heq.out, hst.out])⟩
        case measure => simp [intOf]; omega
    · obtain rfl : q = l.length := by omega
      go_wp2_with fail
      go_ret
      exact ⟨ret_int (by rw [heq.out, skipN_end _ _ _ (Nat.le_refl _)]), rfl⟩

theorem nameValid_any (l : List UInt8) (w : World) (hs : l.length ≤ maxLen) :
    Calls Try.prog 46 #[.string ⟨l.toArray⟩] w fun e w' => e = .returned (.bool (nv l)) ∧ w = w' := by
  have hs' : l.length ≤ 9223372036854775807 := by unfold maxLen at hs; omega
  rcases hr : inB (l.length : Int) 1 12 with _ | _
  · have hnv : nv l = false := by
      unfold nv
      have : (decide (1 ≤ l.length) && decide (l.length ≤ 12)) = false := by
        rw [Bool.eq_false_iff] at hr ⊢
        intro h
        simp at h
        exact hr (inB_iff.2 ⟨by omega, by omega⟩)
      rw [this]; rfl
    have HN := Lib.hid hnv
    clear hnv
    go_enter Try.func46, Try.ntmps46
    go_wp2_with (go_at_call 68; refine (in_any _ _ _ _).mono ?_; rintro e w1 ⟨rfl, rfl⟩)
    go_ret
    exact ⟨ret_bool HN.out.symm, rfl⟩
  · have hr' := inB_iff.1 hr
    have hnv : nv l = decide (skipN l 0 1 = l.length) := by
      unfold nv
      rw [show decide (1 ≤ l.length) = true from decide_eq_true (by omega), show decide (l.length ≤ 12) = true from decide_eq_true (by omega), Bool.true_and, Bool.true_and, Bool.eq_iff_iff, decide_eq_true_iff, ← skip_all]
    have HN := Lib.hid hnv
    clear hnv
    have C := skip_any l 0 1
    go_enter Try.func46, Try.ntmps46
    go_wp2_with fail
    refine (in_any _ _ _ _).mono ?_
    rintro e w1 ⟨rfl, rfl⟩
    go_wp2_with fail
    refine (skip_any l 0 1 _ hs (Nat.zero_le _)).mono ?_
    rintro e w1 ⟨rfl, rfl⟩
    clear C
    go_wp2_with fail
    go_ret
    refine ⟨ret_bool ?_, rfl⟩
    rw [HN.out, Bool.eq_iff_iff]
    simp
    omega

theorem l24Name_any (l : List UInt8) (w : World) (hs : l.length ≤ maxLen) :
    Calls Try.prog 48 #[.string ⟨l.toArray⟩] w fun e w' => e = .returned (.bool (nv l)) ∧ w = w' := by
  have hs' : l.length ≤ 9223372036854775807 := by unfold maxLen at hs; omega
  go_enter Try.func48, Try.ntmps48
  go_wp2_with fail
  go_loop [3] (fun i => ∃ q : Nat, q ≤ l.length ∧ i = .int .i64 q ∧ Hid (((l.take q).all fun c => clsC c == 1) = true)) (fun i => l.length - (intOf i).toNat)
  case atStart => exact ⟨0, Nat.zero_le _, rfl, Lib.hid (by simp)⟩
  case round =>
    obtain ⟨q, hq, rfl, heq⟩ := hrel
    by_cases hlt : q < l.length
    · have i1 : (0 : Int) ≤ (q : Int) := by omega
      have i2 : (q : Int) < (l.length : Int) := by omega
      by_cases hc : clsC l[q] = 1
      · have hst : Hid (((l.take (q + 1)).all fun c => clsC c == 1) = true) := Lib.hid (by rw [List.take_succ_eq_append_getElem hlt, List.all_append, heq.out]; simp [hc])
        have hc' : (cls ((l[q].toNat : Nat) : Int) != 1) = false := by simp; exact hc
        clear hc
        go_wp2_with (go_at_call 86; refine (l8Kind_any _ _).mono ?_; rintro e w1 ⟨rfl, rfl⟩)
        go_round
        case rel => exact ⟨q + 1, by omega, by go_num, hst⟩
        case measure => simp [intOf]; omega
      · have hst : Hid ((l.all fun c => clsC c == 1) = false) := Lib.hid (by
          rw [Bool.eq_false_iff]; intro h; rw [List.all_eq_true] at h
          exact hc (by simpa using h _ (List.getElem_mem hlt)))
        have hc' : (cls ((l[q].toNat : Nat) : Int) != 1) = true := by simp; exact hc
        clear hc
        go_wp2_with (go_at_call 86; refine (l8Kind_any _ _).mono ?_; rintro e w1 ⟨rfl, rfl⟩)
        go_ret
        exact ⟨ret_bool (by unfold nv; rw [hst.out, Bool.and_false]), rfl⟩
    · obtain rfl : q = l.length := by omega
      go_wp2_with fail
      refine (l1In_any _ _ _ _).mono ?_
      rintro e w1 ⟨rfl, rfl⟩
      go_wp2_with fail
      go_ret
      refine ⟨ret_bool ?_, rfl⟩
      have := heq.out
      rw [List.take_length] at this
      unfold nv
      rw [this, Bool.and_true, inB, Bool.eq_iff_iff]
      simp
      try omega

end Go.Proofs.Ytlejfmngpbcdhaa
