/- What is proved here: contracts of the reference's WordRight, WordLeft and WordAround. No condition. -/
import Derived.Test.YtbjlkdenkmbepaaGreatDoorAc4
import Derived.Test.YtbjlkdenkmbepaaGreatDoorLin2
import Derived.BigQuiet
namespace Go.Proofs.YtbjlkdenkmbepaaGreatDoor
open Go.RowKit
set_option linter.unusedVariables false

theorem l8Kind_q (c : Int) (w : World) : Calls Tryz.prog 92 #[.int .u8 c] w fun e w' => e = .returned (.int .i64 (cls c)) ∧ w' = w := (l8Kind_any c w).mono fun e w' h => ⟨h.1, h.2.symm⟩
set_option maxRecDepth 100000 in
set_option maxHeartbeats 2000000 in
theorem specWordRight_any (s : List UInt8) (p : Nat) (w : World) (hs : tv s = true) (hp : p ≤ s.length) :
    Calls Tryz.prog 57 #[S s, .int .i64 p] w fun e w' => e = .returned (.int .i64 (moR s p : Nat)) ∧ Below w.heap.size w w' := by
  have hl := tv_len hs
  have hm : s.length ≤ maxLen := by unfold maxLen; omega
  have T := Lib.hid (fun w => specTextValid_any s w hm)
  rw [hs] at T
  have I := Lib.hid (fun w => l1In_any p 0 s.length w)
  rw [place_in hp] at I
  obtain ⟨m, hmid⟩ : ∃ m, m = if p < s.length ∧ clsC (at8 s p) ≠ 0 then skipN s p (clsC (at8 s p)) else p := ⟨_, rfl⟩
  have HR := Lib.hid (show moR s p = skipN s m 0 by rw [hmid]; rfl)
  have HM := Lib.hid hmid
  have hp1 : (0 : Int) ≤ (p : Int) := by omega
  clear hs hmid
  go_enter Tryz.func57, Tryz.ntmps57
  go_wp2_with fail
  refine (T.out _).mono ?_
  rintro e w1 ⟨rfl, rfl⟩
  go_wp2_with fail
  refine (I.out _).mono ?_
  rintro e w1 ⟨rfl, rfl⟩
  clear T I
  go_wp2_with fail
  go_loopw [5] (fun i wr => ∃ q : Nat, q ≤ s.length ∧ i = .int .i64 q ∧ Hid ((q = p ∧ m = p ∧ (p < s.length → clsC (at8 s p) = 0)) ∨ (p < s.length ∧ clsC (at8 s p) ≠ 0 ∧ m = skipN s q (clsC (at8 s p)))) ∧ Hid (Below w.heap.size w wr)) (fun i _ => s.length - (intOf i).toNat)
  case atStart =>
    refine ⟨p, hp, rfl, Lib.hid ?_, Lib.hid (Below.refl _ _)⟩
    by_cases h : p < s.length ∧ clsC (at8 s p) ≠ 0
    · exact .inr ⟨h.1, h.2, by rw [HM.out, if_pos h]⟩
    · refine .inl ⟨rfl, by rw [HM.out, if_neg h], fun h1 => ?_⟩
      by_cases h2 : clsC (at8 s p) = 0
      · exact h2
      · exact absurd ⟨h1, h2⟩ h
  case round =>
    obtain ⟨q, hq, rfl, HQ, HBr⟩ := hrel
    clear HM
    by_cases hlt : q < s.length
    · have i1 : (0 : Int) ≤ (q : Int) := by omega
      have i2 : (q : Int) < (s.length : Int) := by omega
      rcases HQ.out with ⟨rfl, h2, h3⟩ | ⟨h1, h2, h3⟩
      · have h4 := h3 hlt
        rw [at8_eq hlt] at h4
        have hc' := cls_eq h4
        replace HR := Lib.hid (show moR s q = skipN s q 0 by rw [HR.out, h2])
        clear h2 h3 h4 HQ
        go_wp2_with fail
        go_quiet ((go_at_call 92; refine Calls.quiet_of_same (l8Kind_q _ _)))
        have HB := Lib.hid (show Below w.heap.size w (wr.drewN nq) from up_drewN HBr.out nq)
        go_wp2_with fail
        go_loopw [5] (fun i wr => ∃ z : Nat, z ≤ s.length ∧ i = .int .i64 z ∧ Hid (moR s q = skipN s z 0) ∧ Hid (Below w.heap.size w wr)) (fun i _ => s.length - (intOf i).toNat)
        case atStart => exact ⟨q, hq, rfl, HR, HB⟩
        case round =>
          obtain ⟨k, hk, rfl, HK, HBr⟩ := hrel
          clear HB HR
          by_cases hlt2 : k < s.length
          · have j1 : (0 : Int) ≤ (k : Int) := by omega
            have j2 : (k : Int) < (s.length : Int) := by omega
            by_cases hc2 : clsC s[k] = 0
            · have HS := Lib.hid (skipN_step s k 0 hlt2 hc2)
              have hc3 := cls_eq0 hc2
              clear hc2
              go_wp2_with (go_at_call 92; refine (l8Kind_any _ _).mono ?_; rintro e w1 ⟨rfl, rfl⟩)
              go_roundw
              case rel => exact ⟨k + 1, by omega, by go_num, Lib.hid (by rw [HK.out, HS.out]), HBr⟩
              case measure => simp [intOf]; omega
            · have HS := Lib.hid (skipN_stop s k 0 hlt2 hc2)
              have hc3 := cls_ne0 hc2
              clear hc2
              go_wp2_with (go_at_call 92; refine (l8Kind_any _ _).mono ?_; rintro e w1 ⟨rfl, rfl⟩)
              go_ret
              exact ⟨ret_int (by rw [HK.out, HS.out]), HBr.out⟩
          · obtain rfl : k = s.length := by omega
            go_wp2_with fail
            go_ret
            exact ⟨ret_int (by rw [HK.out, skipN_end _ _ _ (Nat.le_refl _)]), HBr.out⟩
      · have hp2 : (p : Int) < (s.length : Int) := by omega
        rw [at8_eq h1] at h2 h3
        by_cases hc : clsC s[q] = 0
        · have hc' := cls_eq hc
          replace HR := Lib.hid (show moR s p = skipN s q 0 by rw [HR.out, h3, skipN_stop s q _ hlt (fun e => h2 (e.symm.trans hc))])
          clear h2 h3 HQ hc
          go_wp2_with fail
          go_quiet ((go_at_call 92; refine Calls.quiet_of_same (l8Kind_q _ _)))
          have HB := Lib.hid (show Below w.heap.size w (wr.drewN nq) from up_drewN HBr.out nq)
          go_wp2_with fail
          go_loopw [5] (fun i wr => ∃ z : Nat, z ≤ s.length ∧ i = .int .i64 z ∧ Hid (moR s p = skipN s z 0) ∧ Hid (Below w.heap.size w wr)) (fun i _ => s.length - (intOf i).toNat)
          case atStart => exact ⟨q, hq, rfl, HR, HB⟩
          case round =>
            obtain ⟨k, hk, rfl, HK, HBr⟩ := hrel
            clear HB HR
            by_cases hlt2 : k < s.length
            · have j1 : (0 : Int) ≤ (k : Int) := by omega
              have j2 : (k : Int) < (s.length : Int) := by omega
              by_cases hc2 : clsC s[k] = 0
              · have HS := Lib.hid (skipN_step s k 0 hlt2 hc2)
                have hc3 := cls_eq0 hc2
                clear hc2
                go_wp2_with (go_at_call 92; refine (l8Kind_any _ _).mono ?_; rintro e w1 ⟨rfl, rfl⟩)
                go_roundw
                case rel => exact ⟨k + 1, by omega, by go_num, Lib.hid (by rw [HK.out, HS.out]), HBr⟩
                case measure => simp [intOf]; omega
              · have HS := Lib.hid (skipN_stop s k 0 hlt2 hc2)
                have hc3 := cls_ne0 hc2
                clear hc2
                go_wp2_with (go_at_call 92; refine (l8Kind_any _ _).mono ?_; rintro e w1 ⟨rfl, rfl⟩)
                go_ret
                exact ⟨ret_int (by rw [HK.out, HS.out]), HBr.out⟩
            · obtain rfl : k = s.length := by omega
              go_wp2_with fail
              go_ret
              exact ⟨ret_int (by rw [HK.out, skipN_end _ _ _ (Nat.le_refl _)]), HBr.out⟩
        · have hc' := cls_ne hc
          by_cases hc2 : clsC s[q] = clsC s[p]
          · have hc3 : (cls ((s[q].toNat : Nat) : Int) == cls ((s[p].toNat : Nat) : Int)) = true := cls_beq hc2
            have HS := Lib.hid (show (q + 1 = p ∧ m = p ∧ (p < s.length → clsC (at8 s p) = 0)) ∨ (p < s.length ∧ clsC (at8 s p) ≠ 0 ∧ m = skipN s (q + 1) (clsC (at8 s p))) from .inr ⟨h1, by rw [at8_eq h1]; exact h2, by rw [at8_eq h1, h3, skipN_step s q _ hlt hc2]⟩)
            clear h2 h3 HQ hc hc2 HR
            go_wp2_with fail
            go_quiet ((go_at_call 92; refine Calls.quiet_of_same (l8Kind_q _ _)))
            have HB := Lib.hid (show Below w.heap.size w (wr.drewN nq) from up_drewN HBr.out nq)
            go_wp2_with fail
            go_roundw
            case rel => exact ⟨q + 1, by omega, by go_num, HS, HB⟩
            case measure => simp [intOf]; omega
          · have hc3 : (cls ((s[q].toNat : Nat) : Int) == cls ((s[p].toNat : Nat) : Int)) = false := cls_bne hc2
            replace HR := Lib.hid (show moR s p = skipN s q 0 by rw [HR.out, h3, skipN_stop s q _ hlt hc2])
            clear h2 h3 HQ hc hc2
            go_wp2_with fail
            go_quiet ((go_at_call 92; refine Calls.quiet_of_same (l8Kind_q _ _)))
            have HB := Lib.hid (show Below w.heap.size w (wr.drewN nq) from up_drewN HBr.out nq)
            go_wp2_with fail
            go_loopw [5] (fun i wr => ∃ z : Nat, z ≤ s.length ∧ i = .int .i64 z ∧ Hid (moR s p = skipN s z 0) ∧ Hid (Below w.heap.size w wr)) (fun i _ => s.length - (intOf i).toNat)
            case atStart => exact ⟨q, hq, rfl, HR, HB⟩
            case round =>
              obtain ⟨k, hk, rfl, HK, HBr⟩ := hrel
              clear HB HR
              by_cases hlt2 : k < s.length
              · have j1 : (0 : Int) ≤ (k : Int) := by omega
                have j2 : (k : Int) < (s.length : Int) := by omega
                by_cases hc2 : clsC s[k] = 0
                · have HS := Lib.hid (skipN_step s k 0 hlt2 hc2)
                  have hc3 := cls_eq0 hc2
                  clear hc2
                  go_wp2_with (go_at_call 92; refine (l8Kind_any _ _).mono ?_; rintro e w1 ⟨rfl, rfl⟩)
                  go_roundw
                  case rel => exact ⟨k + 1, by omega, by go_num, Lib.hid (by rw [HK.out, HS.out]), HBr⟩
                  case measure => simp [intOf]; omega
                · have HS := Lib.hid (skipN_stop s k 0 hlt2 hc2)
                  have hc3 := cls_ne0 hc2
                  clear hc2
                  go_wp2_with (go_at_call 92; refine (l8Kind_any _ _).mono ?_; rintro e w1 ⟨rfl, rfl⟩)
                  go_ret
                  exact ⟨ret_int (by rw [HK.out, HS.out]), HBr.out⟩
              · obtain rfl : k = s.length := by omega
                go_wp2_with fail
                go_ret
                exact ⟨ret_int (by rw [HK.out, skipN_end _ _ _ (Nat.le_refl _)]), HBr.out⟩
    · obtain rfl : q = s.length := by omega
      replace HR := Lib.hid (show moR s p = skipN s s.length 0 by
        rcases HQ.out with ⟨h1, h2, h3⟩ | ⟨h1, h2, h3⟩
        · rw [HR.out, h2, ← h1]
        · rw [HR.out, h3, skipN_end _ _ _ (Nat.le_refl _)])
      clear HQ
      have i3 : decide (s.length < s.length) = false := decide_eq_false (by omega)
      go_wp2_with fail
      go_quiet ((go_at_call 92; refine Calls.quiet_of_same (l8Kind_q _ _)))
      have HB := Lib.hid (show Below w.heap.size w (wr.drewN nq) from up_drewN HBr.out nq)
      go_wp2_with fail
      go_loopw [5] (fun i wr => ∃ z : Nat, z ≤ s.length ∧ i = .int .i64 z ∧ Hid (moR s p = skipN s z 0) ∧ Hid (Below w.heap.size w wr)) (fun i _ => s.length - (intOf i).toNat)
      case atStart => exact ⟨s.length, hq, rfl, HR, HB⟩
      case round =>
        obtain ⟨k, hk, rfl, HK, HBr⟩ := hrel
        clear HB HR
        by_cases hlt2 : k < s.length
        · have j1 : (0 : Int) ≤ (k : Int) := by omega
          have j2 : (k : Int) < (s.length : Int) := by omega
          by_cases hc2 : clsC s[k] = 0
          · have HS := Lib.hid (skipN_step s k 0 hlt2 hc2)
            have hc3 := cls_eq0 hc2
            clear hc2
            go_wp2_with (go_at_call 92; refine (l8Kind_any _ _).mono ?_; rintro e w1 ⟨rfl, rfl⟩)
            go_roundw
            case rel => exact ⟨k + 1, by omega, by go_num, Lib.hid (by rw [HK.out, HS.out]), HBr⟩
            case measure => simp [intOf]; omega
          · have HS := Lib.hid (skipN_stop s k 0 hlt2 hc2)
            have hc3 := cls_ne0 hc2
            clear hc2
            go_wp2_with (go_at_call 92; refine (l8Kind_any _ _).mono ?_; rintro e w1 ⟨rfl, rfl⟩)
            go_ret
            exact ⟨ret_int (by rw [HK.out, HS.out]), HBr.out⟩
        · obtain rfl : k = s.length := by omega
          go_wp2_with fail
          go_ret
          exact ⟨ret_int (by rw [HK.out, skipN_end _ _ _ (Nat.le_refl _)]), HBr.out⟩

set_option maxHeartbeats 1000000 in
theorem specWordLeft_any (s : List UInt8) (p : Nat) (w : World) (hs : tv s = true) (hp : p ≤ s.length) :
    Calls Tryz.prog 58 #[S s, .int .i64 p] w fun e w' => e = .returned (.int .i64 (moL s p : Nat)) ∧ w = w' := by
  have hl := tv_len hs
  have hm : s.length ≤ maxLen := by unfold maxLen; omega
  have T := Lib.hid (fun w => specTextValid_any s w hm)
  rw [hs] at T
  have I := Lib.hid (fun w => l1In_any p 0 s.length w)
  rw [place_in hp] at I
  have HM := Lib.hid (show moL s p = if skipB s 0 p = 0 then 0 else skipB s (clsC (at8 s (skipB s 0 p - 1))) (skipB s 0 p) from rfl)
  clear hs
  go_enter Tryz.func58, Tryz.ntmps58
  go_wp2_with fail
  refine (T.out _).mono ?_
  rintro e w1 ⟨rfl, rfl⟩
  go_wp2_with fail
  refine (I.out _).mono ?_
  rintro e w1 ⟨rfl, rfl⟩
  clear T I
  go_wp2_with fail
  go_loop [5] (fun i => ∃ q : Nat, q ≤ p ∧ i = .int .i64 q ∧ Hid (skipB s 0 p = skipB s 0 q)) (fun i => (intOf i).toNat)
  case atStart => exact ⟨p, Nat.le_refl _, rfl, Lib.hid rfl⟩
  case round =>
    obtain ⟨q, hq, rfl, HQ⟩ := hrel
    by_cases h0 : 0 < q
    · obtain ⟨j, rfl⟩ : ∃ j, q = j + 1 := ⟨q - 1, by omega⟩
      have hj : j < s.length := by omega
      have e1 : ((j + 1 : Nat) : Int) - 1 = (j : Int) := by omega
      have i1 : (0 : Int) ≤ (j : Int) := by omega
      have i2 : (j : Int) < (s.length : Int) := by omega
      have i3 : (0 : Int) < ((j + 1 : Nat) : Int) := by omega
      have i4 : (((j + 1 : Nat) : Int) == 0) = false := by rw [beq_eq_false_iff_ne]; omega
      by_cases hc : clsC s[j] = 0
      · have hst := Lib.hid (skipB_step hj hc)
        have hc' := cls_eq0 hc
        clear hc
        go_wp2_with (go_at_call 92; refine (l8Kind_any _ _).mono ?_; rintro e w1 ⟨rfl, rfl⟩)
        go_round
        case rel => exact ⟨j, by omega, by go_num, Lib.hid (by rw [HQ.out, hst.out])⟩
        case measure => simp [intOf]
      · have HB := Lib.hid (show moL s p = skipB s (clsC s[j]) (j + 1) by rw [HM.out, HQ.out, skipB_stop hj hc, if_neg (by omega), Nat.add_sub_cancel, at8_eq hj])
        have hc' := cls_ne0 hc
        clear hc HM HQ
        go_wp2_with fail
        refine (l8Kind_any _ _).mono ?_
        rintro e w1 ⟨rfl, rfl⟩
        go_wp2_with fail
        refine (l8Kind_any _ _).mono ?_
        rintro e w1 ⟨rfl, rfl⟩
        obtain ⟨K, hK⟩ : ∃ K, K = cls ((s[j].toNat : Nat) : Int) := ⟨_, rfl⟩
        have hK2 : clsC s[j] = K := hK.symm
        rw [hK2] at HB
        rw [← hK]
        clear hc' hK hK2
        go_wp2_with fail
        go_loop [5] (fun i => ∃ q : Nat, q ≤ j + 1 ∧ i = .int .i64 q ∧ Hid (moL s p = skipB s K q)) (fun i => (intOf i).toNat)
        case atStart => exact ⟨j + 1, Nat.le_refl _, by go_num, HB⟩
        case round =>
          obtain ⟨k, hk, rfl, HK⟩ := hrel
          clear HB
          by_cases h1 : 0 < k
          · obtain ⟨i, rfl⟩ : ∃ i, k = i + 1 := ⟨k - 1, by omega⟩
            have hi : i < s.length := by omega
            have e2 : ((i + 1 : Nat) : Int) - 1 = (i : Int) := by omega
            have j1 : (0 : Int) ≤ (i : Int) := by omega
            have j2 : (i : Int) < (s.length : Int) := by omega
            have j3 : (0 : Int) < ((i + 1 : Nat) : Int) := by omega
            by_cases hc : clsC s[i] = K
            · have hst := Lib.hid (skipB_step hi hc)
              have hc' := cls_beq hc
              clear hc
              go_wp2_with (go_at_call 92; refine (l8Kind_any _ _).mono ?_; rintro e w1 ⟨rfl, rfl⟩)
              go_round
              case rel => exact ⟨i, by omega, by go_num, Lib.hid (by rw [HK.out, hst.out])⟩
              case measure => simp [intOf]
            · have hst := Lib.hid (skipB_stop hi hc)
              have hc' := cls_bne hc
              clear hc
              go_wp2_with (go_at_call 92; refine (l8Kind_any _ _).mono ?_; rintro e w1 ⟨rfl, rfl⟩)
              go_ret
              exact ⟨ret_int (by rw [HK.out, hst.out]; omega), rfl⟩
          · obtain rfl : k = 0 := by omega
            go_wp2_with fail
            go_ret
            exact ⟨ret_int (by rw [HK.out]; rfl), rfl⟩
    · obtain rfl : q = 0 := by omega
      have HB := Lib.hid (show moL s p = 0 by rw [HM.out, HQ.out, show skipB s 0 0 = 0 from rfl, if_pos rfl])
      clear HM HQ
      go_wp2_with fail
      go_ret
      exact ⟨ret_int (by rw [HB.out]; rfl), rfl⟩

set_option maxHeartbeats 1000000 in
theorem specWordAround_any (s : List UInt8) (p : Nat) (w : World) (hs : tv s = true) (hp : p ≤ s.length) :
    Calls Tryz.prog 56 #[S s, .int .i64 p] w fun e w' => e = .returned (.tuple #[.int .i64 (waA s p : Nat), .int .i64 (waZ s p : Nat)]) ∧ w = w' := by
  have hl := tv_len hs
  have hm : s.length ≤ maxLen := by unfold maxLen; omega
  have T := Lib.hid (fun w => specTextValid_any s w hm)
  rw [hs] at T
  have I := Lib.hid (fun w => l1In_any p 0 s.length w)
  rw [place_in hp] at I
  clear hs
  by_cases hlt : p < s.length
  · have i1 : (0 : Int) ≤ (p : Int) := by omega
    have i2 : (p : Int) < (s.length : Int) := by omega
    have i3 : ((p : Int) == (s.length : Int)) = false := by rw [beq_eq_false_iff_ne]; omega
    by_cases hc : clsC s[p] = 0
    · have HA := Lib.hid (show waA s p = p ∧ waZ s p = p by
        have : waH s p = false := by unfold waH; rw [at8_eq hlt]; simp [hc]
        unfold waA waZ
        rw [this]
        exact ⟨rfl, rfl⟩)
      have hc' := cls_eq0 hc
      clear hc
      go_enter Tryz.func56, Tryz.ntmps56
      go_wp2_with fail
      refine (T.out _).mono ?_
      rintro e w1 ⟨rfl, rfl⟩
      go_wp2_with fail
      refine (I.out _).mono ?_
      rintro e w1 ⟨rfl, rfl⟩
      go_wp2_with fail
      refine (l8Kind_any _ _).mono ?_
      rintro e w1 ⟨rfl, rfl⟩
      go_wp2_with fail
      go_ret2
      rw [HA.out.1, HA.out.2]
      exact ⟨rfl, rfl⟩
    · obtain ⟨K, hK⟩ : ∃ K, K = clsC s[p] := ⟨_, rfl⟩
      have HA := Lib.hid (show waA s p = skipB s K p ∧ waZ s p = skipN s p K by
        have : waH s p = true := by unfold waH; rw [at8_eq hlt]; simp [hc, hlt]
        unfold waA waZ
        rw [this, at8_eq hlt, hK]
        exact ⟨rfl, rfl⟩)
      have hc' := cls_ne0 hc
      have hK2 : cls ((s[p].toNat : Nat) : Int) = K := hK.symm
      clear hc hK
      go_enter Tryz.func56, Tryz.ntmps56
      go_wp2_with fail
      refine (T.out _).mono ?_
      rintro e w1 ⟨rfl, rfl⟩
      go_wp2_with fail
      refine (I.out _).mono ?_
      rintro e w1 ⟨rfl, rfl⟩
      clear T I
      go_wp2_with fail
      refine (l8Kind_any _ _).mono ?_
      rintro e w1 ⟨rfl, rfl⟩
      go_wp2_with fail
      refine (l8Kind_any _ _).mono ?_
      rintro e w1 ⟨rfl, rfl⟩
      rw [hK2]
      clear hc' hK2
      go_wp2_with fail
      go_loop [6] (fun i => ∃ q : Nat, q ≤ p ∧ i = .int .i64 q ∧ Hid (skipB s K p = skipB s K q)) (fun i => (intOf i).toNat)
      case atStart => exact ⟨p, Nat.le_refl _, rfl, Lib.hid rfl⟩
      case round =>
        obtain ⟨q, hq, rfl, HQ⟩ := hrel
        by_cases h0 : 0 < q
        · obtain ⟨j, rfl⟩ : ∃ j, q = j + 1 := ⟨q - 1, by omega⟩
          have hj : j < s.length := by omega
          have e1 : ((j + 1 : Nat) : Int) - 1 = (j : Int) := by omega
          have j1 : (0 : Int) ≤ (j : Int) := by omega
          have j2 : (j : Int) < (s.length : Int) := by omega
          have j3 : (0 : Int) < ((j + 1 : Nat) : Int) := by omega
          by_cases hc : clsC s[j] = K
          · have hst := Lib.hid (skipB_step hj hc)
            have hc' := cls_beq hc
            clear hc
            go_wp2_with (go_at_call 92; refine (l8Kind_any _ _).mono ?_; rintro e w1 ⟨rfl, rfl⟩)
            go_round
            case rel => exact ⟨j, by omega, by go_num, Lib.hid (by rw [HQ.out, hst.out])⟩
            case measure => simp [intOf]
          · have HB := Lib.hid (show waA s p = j + 1 by rw [HA.out.1, HQ.out, skipB_stop hj hc])
            have hc' := cls_bne hc
            clear hc HQ
            go_wp2_with (go_at_call 92; refine (l8Kind_any _ _).mono ?_; rintro e w1 ⟨rfl, rfl⟩)
            go_loop [7] (fun i => ∃ q : Nat, p ≤ q ∧ q ≤ s.length ∧ i = .int .i64 q ∧ Hid (waZ s p = skipN s q K)) (fun i => s.length - (intOf i).toNat)
            case atStart => exact ⟨p, Nat.le_refl _, hp, rfl, Lib.hid HA.out.2⟩
            case round =>
              obtain ⟨k, hk0, hk, rfl, HK⟩ := hrel
              by_cases hlt2 : k < s.length
              · have k1 : (0 : Int) ≤ (k : Int) := by omega
                have k2 : (k : Int) < (s.length : Int) := by omega
                by_cases hc2 : clsC s[k] = K
                · have HS := Lib.hid (skipN_step s k K hlt2 hc2)
                  have hc3 := cls_beq hc2
                  clear hc2
                  go_wp2_with (go_at_call 92; refine (l8Kind_any _ _).mono ?_; rintro e w1 ⟨rfl, rfl⟩)
                  go_round
                  case rel => exact ⟨k + 1, by omega, by omega, by go_num, Lib.hid (by rw [HK.out, HS.out])⟩
                  case measure => simp [intOf]; omega
                · have HS := Lib.hid (skipN_stop s k K hlt2 hc2)
                  have hc3 := cls_bne hc2
                  clear hc2
                  go_wp2_with (go_at_call 92; refine (l8Kind_any _ _).mono ?_; rintro e w1 ⟨rfl, rfl⟩)
                  go_ret2
                  refine ⟨?_, rfl⟩
                  rw [HB.out, HK.out, HS.out]
                  congr 3
              · obtain rfl : k = s.length := by omega
                go_wp2_with fail
                go_ret2
                refine ⟨?_, rfl⟩
                rw [HB.out, HK.out, skipN_end _ _ _ (Nat.le_refl _)]
                congr 3
        · obtain rfl : q = 0 := by omega
          have HB := Lib.hid (show waA s p = 0 by rw [HA.out.1, HQ.out]; rfl)
          clear HQ
          go_wp2_with fail
          go_loop [7] (fun i => ∃ q : Nat, p ≤ q ∧ q ≤ s.length ∧ i = .int .i64 q ∧ Hid (waZ s p = skipN s q K)) (fun i => s.length - (intOf i).toNat)
          case atStart => exact ⟨p, Nat.le_refl _, hp, rfl, Lib.hid HA.out.2⟩
          case round =>
            obtain ⟨k, hk0, hk, rfl, HK⟩ := hrel
            by_cases hlt2 : k < s.length
            · have k1 : (0 : Int) ≤ (k : Int) := by omega
              have k2 : (k : Int) < (s.length : Int) := by omega
              by_cases hc2 : clsC s[k] = K
              · have HS := Lib.hid (skipN_step s k K hlt2 hc2)
                have hc3 := cls_beq hc2
                clear hc2
                go_wp2_with (go_at_call 92; refine (l8Kind_any _ _).mono ?_; rintro e w1 ⟨rfl, rfl⟩)
                go_round
                case rel => exact ⟨k + 1, by omega, by omega, by go_num, Lib.hid (by rw [HK.out, HS.out])⟩
                case measure => simp [intOf]; omega
              · have HS := Lib.hid (skipN_stop s k K hlt2 hc2)
                have hc3 := cls_bne hc2
                clear hc2
                go_wp2_with (go_at_call 92; refine (l8Kind_any _ _).mono ?_; rintro e w1 ⟨rfl, rfl⟩)
                go_ret2
                refine ⟨?_, rfl⟩
                rw [HB.out, HK.out, HS.out]
                congr 3
            · obtain rfl : k = s.length := by omega
              go_wp2_with fail
              go_ret2
              refine ⟨?_, rfl⟩
              rw [HB.out, HK.out, skipN_end _ _ _ (Nat.le_refl _)]
              congr 3
  · obtain rfl : p = s.length := by omega
    have HA := Lib.hid (show waA s s.length = s.length ∧ waZ s s.length = s.length by
      have : waH s s.length = false := by unfold waH; simp
      unfold waA waZ
      rw [this]
      exact ⟨rfl, rfl⟩)
    go_enter Tryz.func56, Tryz.ntmps56
    go_wp2_with fail
    refine (T.out _).mono ?_
    rintro e w1 ⟨rfl, rfl⟩
    go_wp2_with fail
    refine (I.out _).mono ?_
    rintro e w1 ⟨rfl, rfl⟩
    go_wp2_with fail
    go_ret2
    rw [HA.out.1, HA.out.2]
    exact ⟨rfl, rfl⟩

end Go.Proofs.YtbjlkdenkmbepaaGreatDoor
