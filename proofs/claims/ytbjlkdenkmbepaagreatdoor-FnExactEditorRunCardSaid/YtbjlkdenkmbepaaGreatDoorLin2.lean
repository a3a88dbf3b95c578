/- What is proved here: What is proved here: contracts of LineMany and alive. What is proved here: contracts of the program's functions on lines and places of valid texts. What is proved here: contracts of the reference's functions on lines and places. No condition. -/
import Derived.Test.YtbjlkdenkmbepaaGreatDoorText1
import Derived.Test.YtbjlkdenkmbepaaGreatDoorShelf
import Derived.Test.YtbjlkdenkmbepaaGreatDoorAc2
import Derived.Test.YtbjlkdenkmbepaaGreatDoorBase
namespace Go.Proofs.YtbjlkdenkmbepaaGreatDoor
open Go.RowKit

theorem implLineMany_any (l : List UInt8) (w : World) (hs : l.length ≤ maxLen) :
    Calls Tryz.prog 50 #[.string ⟨l.toArray⟩] w fun e w' => e = .returned (.int .i64 (if tv l then 1 + Lib.countByte l 10 else -1)) ∧ w = w' := by
  rcases hv : tv l with _ | _
  · go_enter Tryz.func50, Tryz.ntmps50
    go_wp2_with fail
    refine (implTextValid_any _ _ hs).mono ?_
    rintro e w1 ⟨rfl, rfl⟩
    go_wp2_with fail
    go_ret
    exact ⟨rfl, rfl⟩
  · have hl := tv_len hv
    have hc : Lib.countByte l 10 ≤ 120 := by unfold Lib.countByte; exact Nat.le_trans List.count_le_length hl
    go_enter Tryz.func50, Tryz.ntmps50
    go_wp2_with fail
    refine (implTextValid_any _ _ hs).mono ?_
    rintro e w1 ⟨rfl, rfl⟩
    go_wp2_with fail
    refine (Tryz.strings_Count_one _ _ _).mono ?_
    rintro e w1 ⟨rfl, rfl⟩
    go_wp2_with fail
    go_ret
    exact ⟨rfl, rfl⟩

theorem alive_any (w : World) : Calls Tryz.prog 16 #[] w fun e w' => e = .returned (.bool true) ∧ w = w' := by
  go_enter Tryz.func16, Tryz.ntmps16
  go_wp2_with fail
  refine (implLineMany_any [97, 10, 98] _ (by decide)).mono ?_
  rintro e w1 ⟨rfl, rfl⟩
  go_wp2_with fail
  go_ret
  exact ⟨rfl, rfl⟩

end Go.Proofs.YtbjlkdenkmbepaaGreatDoor

namespace Go.Proofs.YtbjlkdenkmbepaaGreatDoor
open Go.RowKit

theorem i64_info : (Tryz.prog.info? 3).map (fun i => (i.zero, i.size, i.bytes)) = some (some (.int .i64 0), 1, 8) := by kernel_rfl
theorem b10 (c : UInt8) : c = 10 ↔ ((c.toNat : Nat) : Int) = 10 := by
  constructor
  · rintro rfl; rfl
  · intro h
    have : c.toNat = 10 := by omega
    exact UInt8.toNat_inj.1 this
theorem b10n {c : UInt8} (h : c ≠ 10) : ¬ ((c.toNat : Nat) : Int) = 10 := fun e => h ((b10 c).2 e)





def natC (k : Nat) : Value := .int .i64 (k : Int)





end Go.Proofs.YtbjlkdenkmbepaaGreatDoor

namespace Go.Proofs.YtbjlkdenkmbepaaGreatDoor
open Go.RowKit

theorem specLineMany_any (s : List UInt8) (w : World) (hs : s.length ≤ maxLen) :
    Calls Tryz.prog 94 #[S s] w fun e w' => e = .returned (.int .i64 (if tv s = true then 1 + (nl s : Int) else -1)) ∧ w = w' := by
  rcases ht : tv s with _ | _
  · go_enter Tryz.func94, Tryz.ntmps94
    go_wp2_with fail
    refine (specTextValid_any _ _ hs).mono ?_
    rw [ht]
    rintro e w1 ⟨rfl, rfl⟩
    clear ht
    go_wp2_with fail
    go_ret
    exact ⟨rfl, rfl⟩
  · have hl := tv_len ht
    go_enter Tryz.func94, Tryz.ntmps94
    go_wp2_with fail
    refine (specTextValid_any _ _ hs).mono ?_
    rw [ht]
    rintro e w1 ⟨rfl, rfl⟩
    clear ht
    go_wp2_with fail
    go_loop [3, 4] (fun n i => ∃ k : Nat, k ≤ s.length ∧ i = .int .i64 k ∧ n = .int .i64 (1 + (nl (s.take k) : Int))) (fun _ i => s.length - (intOf i).toNat)
    case atStart => exact ⟨0, Nat.zero_le _, rfl, by simp [nl]⟩
    case round =>
      obtain ⟨k, hk, rfl, rfl⟩ := hrel
      have hn := nl_le (s.take k)
      rw [List.length_take] at hn
      by_cases hlt : k < s.length
      · have i1 : (0 : Int) ≤ (k : Int) := by omega
        have i2 : (k : Int) < (s.length : Int) := by omega
        have HT := Lib.hid (nl_take_succ s k hlt)
        by_cases hc : s[k] = 10
        · have h10 := (b10 _).1 hc
          have HC := Lib.hid hc
          clear hc
          go_wp2_with fail
          go_round
          case rel => exact ⟨k + 1, by omega, by go_num, by rw [HT.out, if_pos HC.out]; congr 1⟩
          case measure => simp [intOf]; omega
        · have h10 := b10n hc
          have HC := Lib.hid hc
          clear hc
          go_wp2_with fail
          go_round
          case rel => exact ⟨k + 1, by omega, by go_num, by rw [HT.out, if_neg HC.out]; rfl⟩
          case measure => simp [intOf]; omega
      · obtain rfl : k = s.length := by omega
        go_wp2_with fail
        go_ret
        first | exact ⟨rfl, rfl⟩ | (rw [nl_full]; exact ⟨rfl, rfl⟩)


set_option maxRecDepth 100000 in
set_option maxHeartbeats 1000000 in
theorem specLineStart_any (s : List UInt8) (q : Nat) (w : World) (hs : tv s = true) (hq : q ≤ nl s) :
    Calls Tryz.prog 99 #[S s, .int .i64 q] w fun e w' => e = .returned (.int .i64 (lst s q)) ∧ w = w' := by
  have hl := tv_len hs
  have hnn := nl_le s
  go_enter Tryz.func99, Tryz.ntmps99
  go_wp2_with fail
  refine (specTextValid_any _ _ (by unfold maxLen; omega)).mono ?_
  rw [hs]
  rintro e w1 ⟨rfl, rfl⟩
  clear hs
  go_wp2_with fail
  go_loop [5, 6] (fun n i => ∃ k : Nat, k ≤ s.length + 1 ∧ i = .int .i64 k ∧ n = .int .i64 (nl (s.take k) : Int) ∧ Hid (∀ j, j < k → ¬ Qual s q j)) (fun _ i => s.length + 1 - (intOf i).toNat)
  case atStart => exact ⟨0, Nat.zero_le _, rfl, by simp [nl], Lib.hid (fun j h => absurd h (Nat.not_lt_zero _))⟩
  case round =>
    obtain ⟨k, hk, rfl, rfl, HN⟩ := hrel
    have hn := nl_le (s.take k)
    rw [List.length_take] at hn
    by_cases hlt : k ≤ s.length
    · have i1 : (0 : Int) ≤ (k : Int) := by omega
      have i2 : (k : Int) ≤ (s.length : Int) := by omega
      by_cases hQ : Qual s q k
      · have HL := Lib.hid (lst_eq hlt hQ)
        obtain ⟨e1, e2⟩ := hQ
        have e3 : (((nl (s.take k) : Nat) : Int) == (q : Int)) = true := beq_iff_eq.2 (by omega)
        clear e1
        rcases e2 with h0 | ⟨h1, h2, h3⟩
        · have e4 : ((k : Int) == 0) = true := beq_iff_eq.2 (by omega)
          clear h0
          go_wp2_with fail
          go_ret
          exact ⟨ret_int (by rw [HL.out]), rfl⟩
        · have h10 := (b10 _).1 h3
          have e4 : ((k : Int) == 0) = false := beq_eq_false_iff_ne.2 (by omega)
          have i3 : (1 : Int) ≤ (k : Int) := by omega
          clear h3
          go_wp2_with fail
          go_ret
          exact ⟨ret_int (by rw [HL.out]), rfl⟩
      · have HNQ := Lib.hid hQ
        have first : (((nl (s.take k) : Nat) : Int) == (q : Int)) = false ∨ ∃ h : k - 1 < s.length, 0 < k ∧ (((nl (s.take k) : Nat) : Int) == (q : Int)) = true ∧ s[k - 1] ≠ 10 := by
          by_cases e1 : nl (s.take k) = q
          · right
            have k0 : k ≠ 0 := fun e => hQ ⟨e1, .inl e⟩
            refine ⟨by omega, by omega, beq_iff_eq.2 (by omega), fun e => hQ ⟨e1, .inr ⟨by omega, by omega, e⟩⟩⟩
          · exact .inl (beq_eq_false_iff_ne.2 (by omega))
        clear hQ
        have second : k = s.length ∨ ∃ h : k < s.length, s[k] = 10 ∨ s[k] ≠ 10 := by
          by_cases h : k < s.length
          · by_cases e : s[k] = 10
            · exact .inr ⟨h, .inl e⟩
            · exact .inr ⟨h, .inr e⟩
          · exact .inl (by omega)
        have HN' : Hid (∀ j, j < k + 1 → ¬ Qual s q j) := Lib.hid fun j hj => by
          rcases Nat.lt_succ_iff_lt_or_eq.1 hj with h | rfl
          · exact HN.out j h
          · exact HNQ.out
        clear HN HNQ
        rcases first with e3 | ⟨hj, hk0, e3, hne⟩
        case' inr =>
          have h10a := b10n hne
          have e4 : ((k : Int) == 0) = false := beq_eq_false_iff_ne.2 (by omega)
          have i3 : (1 : Int) ≤ (k : Int) := by omega
          clear hne
        all_goals
          rcases second with hend | ⟨h2, hc | hc⟩
          · have i4 : ¬ ((k : Int) < (s.length : Int)) := by omega
            have i5 : decide (k < s.length) = false := decide_eq_false (by omega)
            have HE := Lib.hid hend
            clear hend
            go_wp2_with fail
            go_round
            case rel => exact ⟨_, by omega, by go_num, by rw [List.take_of_length_le (by have := HE.out; omega), List.take_of_length_le (by have := HE.out; omega)], HN'⟩
            case measure => simp [intOf]; omega
          · have h10 := (b10 _).1 hc
            have i4 : (k : Int) < (s.length : Int) := by omega
            have i5 : decide (k < s.length) = true := decide_eq_true h2
            have HT := Lib.hid ((nl_take_succ s _ h2).trans (by rw [if_pos hc]))
            clear hc
            go_wp2_with fail
            go_round
            case rel => exact ⟨_, by omega, by go_num, by rw [HT.out]; congr 1, HN'⟩
            case measure => simp [intOf]; omega
          · have h10 := b10n hc
            have i4 : (k : Int) < (s.length : Int) := by omega
            have i5 : decide (k < s.length) = true := decide_eq_true h2
            have HT := Lib.hid ((nl_take_succ s _ h2).trans (by rw [if_neg hc]))
            clear hc
            go_wp2_with fail
            go_round
            case rel => exact ⟨_, by omega, by go_num, by rw [HT.out]; rfl, HN'⟩
            case measure => simp [intOf]; omega
    · exfalso
      exact qual_none s q (fun j hj => HN.out j (by omega)) hq

theorem specLineEnd_any (s : List UInt8) (q : Nat) (w : World) (hs : tv s = true) (hq : q ≤ nl s) :
    Calls Tryz.prog 100 #[S s, .int .i64 q] w fun e w' => e = .returned (.int .i64 (lend s q)) ∧ w = w' := by
  have hl := tv_len hs
  have h1 := (lst_spec s q hq).1
  go_enter Tryz.func100, Tryz.ntmps100
  go_wp2_with fail
  refine (specLineStart_any s q _ hs hq).mono ?_
  rintro e w1 ⟨rfl, rfl⟩
  clear hs
  go_wp2_with fail
  go_loop [5] (fun i => ∃ k : Nat, k ≤ s.length ∧ i = .int .i64 k ∧ Hid (lend s q = k + run10 (s.drop k))) (fun i => s.length - (intOf i).toNat)
  case atStart => exact ⟨lst s q, h1, rfl, Lib.hid rfl⟩
  case round =>
    obtain ⟨k, hk, rfl, HK⟩ := hrel
    clear h1
    have i0 : decide ((0 : Int) ≤ (k : Int)) = true := decide_eq_true (by omega)
    by_cases hlt : k < s.length
    · have i1 : (0 : Int) ≤ (k : Int) := by omega
      have i2 : (k : Int) < (s.length : Int) := by omega
      have i3 : decide (k < s.length) = true := decide_eq_true hlt
      by_cases hc : s[k] = 10
      · have h10 := (b10 _).1 hc
        have HR := Lib.hid (run10_stop s k hlt hc)
        clear hc
        go_wp2_with fail
        go_ret
        exact ⟨ret_int (by rw [HK.out, HR.out]), rfl⟩
      · have h10 := b10n hc
        have HR := Lib.hid (run10_step s k hlt hc)
        clear hc
        go_wp2_with fail
        go_round
        case rel => exact ⟨k + 1, by omega, by go_num, Lib.hid (by rw [HK.out, HR.out])⟩
        case measure => simp [intOf]; omega
    · obtain rfl : k = s.length := by omega
      have HR := Lib.hid (run10_end s)
      have i3 : decide (s.length < s.length) = false := decide_eq_false (by omega)
      go_wp2_with fail
      go_ret
      exact ⟨ret_int (by rw [HK.out, HR.out]), rfl⟩



end Go.Proofs.YtbjlkdenkmbepaaGreatDoor
