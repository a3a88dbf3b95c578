/- What is proved here: the contract of the reference's RecordText. No condition. -/
import Derived.Test.YtdngdlcibaiekaaGreatDoorRc7
import Derived.Test.YtdngdlcibaiekaaGreatDoorReg
import Derived.Test.YtdngdlcibaiekaaGreatDoorHist0
namespace Go.Proofs.YtdngdlcibaiekaaGreatDoor
open Go.RowKit
set_option linter.unusedVariables false

theorem esc_snoc (l : List UInt8) (c : UInt8) : esc (l ++ [c]) = esc l ++ esc1 c := by simp [esc]
theorem recB_pre (a b : Nat) (p : List UInt8) : recB a b p = (nm a ++ 32 :: (nm b ++ [32])) ++ esc p := by simp [recB]

theorem one_slice (p : List UInt8) (k : Nat) (h : k < p.length) : (p.take (k + 1)).drop k = [p[k]] := by
  rw [List.take_succ_eq_append_getElem h, List.drop_left' (by rw [List.length_take]; omega)]

set_option maxRecDepth 100000 in
set_option maxHeartbeats 1000000 in
theorem specRecordText_any (x : Ch) (w : World) (hp : x.p.length ≤ 1048576) :
    Calls Tryz.prog 15 #[chAgg x] w fun e w' => e = .returned (S (recT x.a x.c x.p)) ∧ Below w.heap.size w w' := by
  obtain ⟨a, c, p⟩ := x
  simp only at hp
  unfold chAgg
  simp only
  rcases ha : inB a 0 120 with _ | _
  · have HR := Lib.hid (show recT a c p = [] by unfold recT recOk; rw [ha]; rfl)
    generalize recT a c p = r at *
    go_enter Tryz.func15, Tryz.ntmps15
    go_wp2_with (go_at_call 50; refine (l1In_any _ _ _ _).mono ?_; rintro e w1 ⟨rfl, rfl⟩)
    go_ret
    rw [HR.out]
    exact ⟨rfl, by (repeat (first | exact Below.refl _ _ | assumption | refine Below.drew ?_ | refine up_drewN ?_ _ | refine up_alloc ?_ _ | refine up_set ?_ _ _ (by first | exact Nat.le_refl _ | (simp; done) | (simp; omega) | omega) | refine up_trans ?_ (by assumption)))⟩
  rcases hc : inB c 0 120 with _ | _
  · have HR := Lib.hid (show recT a c p = [] by unfold recT recOk; rw [ha, hc]; rfl)
    generalize recT a c p = r at *
    go_enter Tryz.func15, Tryz.ntmps15
    go_wp2_with (go_at_call 50; refine (l1In_any _ _ _ _).mono ?_; rintro e w1 ⟨rfl, rfl⟩)
    go_ret
    rw [HR.out]
    exact ⟨rfl, by (repeat (first | exact Below.refl _ _ | assumption | refine Below.drew ?_ | refine up_drewN ?_ _ | refine up_alloc ?_ _ | refine up_set ?_ _ _ (by first | exact Nat.le_refl _ | (simp; done) | (simp; omega) | omega) | refine up_trans ?_ (by assumption)))⟩
  have hml : p.length ≤ maxLen := by unfold maxLen; omega
  rcases ht : tv p with _ | _
  · have HR := Lib.hid (show recT a c p = [] by unfold recT recOk; rw [ha, hc, ht]; rfl)
    generalize recT a c p = r at *
    go_enter Tryz.func15, Tryz.ntmps15
    go_wp2_with (first | (go_at_call 50; refine (l1In_any _ _ _ _).mono ?_; rintro e w1 ⟨rfl, rfl⟩) | (go_at_call 51; refine (specTextValid_any p _ hml).mono ?_; rintro e w1 ⟨rfl, rfl⟩))
    go_ret
    rw [HR.out]
    exact ⟨rfl, by (repeat (first | exact Below.refl _ _ | assumption | refine Below.drew ?_ | refine up_drewN ?_ _ | refine up_alloc ?_ _ | refine up_set ?_ _ _ (by first | exact Nat.le_refl _ | (simp; done) | (simp; omega) | omega) | refine up_trans ?_ (by assumption)))⟩
  have hR : recT a c p = recX a.toNat c.toNat p := by unfold recT recOk; rw [ha, hc, ht]; rfl
  have HAI := Lib.hid ha
  have HCI := Lib.hid hc
  have ha2 := inB_iff.1 ha
  have hc2 := inB_iff.1 hc
  have hl := tv_len ht
  obtain ⟨a, rfl⟩ := Int.eq_ofNat_of_zero_le ha2.1
  obtain ⟨c, rfl⟩ := Int.eq_ofNat_of_zero_le hc2.1
  rw [Int.toNat_natCast, Int.toNat_natCast] at hR
  have ha3 : a ≤ 120 := by omega
  have hc3 : c ≤ 120 := by omega
  have la := nm_len (n := a) (by omega)
  have lc := nm_len (n := c) (by omega)
  obtain ⟨pre, hpre⟩ : ∃ pre, pre = nm a ++ 32 :: (nm c ++ [32]) := ⟨_, rfl⟩
  have lpre : pre.length ≤ 8 := by rw [hpre]; simp; omega
  have HX := Lib.hid (show recB a c p = pre ++ esc p by rw [recB_pre, hpre])
  have HR := Lib.hid (show recT (a : Int) (c : Int) p = (recB a c p ++ [32]) ++ nm (smS 0 (recB a c p)) by rw [hR]; simp [recX])
  generalize recT (a : Int) (c : Int) p = r at *
  clear hR ha2 hc2
  go_enter Tryz.func15, Tryz.ntmps15
  go_wp2_with (first | (go_at_call 50; refine (l1In_any _ _ _ _).mono ?_; rintro e w1 ⟨rfl, rfl⟩) | (go_at_call 51; refine (specTextValid_any p _ hml).mono ?_; rintro e w1 ⟨rfl, rfl⟩))
  obtain ⟨w1, hw1⟩ : ∃ z, z = w.alloc (.cells #[.int .i64 (a : Int), .int .i64 (c : Int), S p] 23) := ⟨_, rfl⟩
  have hb : Below w.heap.size w w1 := by rw [hw1]; (repeat (first | exact Below.refl _ _ | assumption | refine Below.drew ?_ | refine up_drewN ?_ _ | refine up_alloc ?_ _ | refine up_set ?_ _ _ (by first | exact Nat.le_refl _ | (simp; done) | (simp; omega) | omega) | refine up_trans ?_ (by assumption)))
  have xc : ∀ o, w1.cell? ⟨w.heap.size, o, none⟩ = #[.int .i64 (a : Int), .int .i64 (c : Int), S p][o]? := fun o => by rw [hw1]; simp [go_sem]
  have xz : w.heap.size < w1.heap.size := by rw [hw1]; simp
  rw [← hw1]
  clear hw1
  have hne := UpW.nonempty w1
  have CA := Lib.hid (fun y : UpW w1 => calls_up (l22Number_any a (y.at w1) (by omega)))
  have CC := Lib.hid (fun y : UpW w1 => calls_up (l22Number_any c (y.at w1) (by omega)))
  refine wp_region_up_lit (by kernel_rfl) (by kernel_rfl) ?_
  repeat (go_big_quiet_step ((go_at_call 52; first | (with_reducible exact CA.out _) | (with_reducible exact CC.out _))))
  refine wpQuiet_nil ?_
  intro w2 hb2
  replace hb2 := UpW.out hb2
  rw [← hpre]
  replace xc := up_c hb2 xz xc
  replace xz := Nat.lt_of_lt_of_le xz hb2.size
  have hW : Below w.heap.size w w2 := up_trans hb hb2
  have le0 : ∀ k, (esc (p.take k)).length ≤ 240 := fun k => by have := esc_len (p.take k); rw [List.length_take] at this; omega
  clear CA CC hne hb hb2 hpre ha hc ht la lc
  go_wp2_with fail
  go_loop [3, 4] (fun o i => ∃ k : Nat, k ≤ p.length ∧ i = .int .i64 k ∧ o = S (pre ++ esc (p.take k))) (fun _ i => p.length - (intOf i).toNat)
  case atStart => exact ⟨0, Nat.zero_le _, rfl, by simp [esc]⟩
  case round =>
    obtain ⟨k, hk, rfl, rfl⟩ := hrel
    have le1 := le0 k
    by_cases hlt : k < p.length
    · have HS := Lib.hid (show esc (p.take (k + 1)) = esc (p.take k) ++ esc1 p[k] by rw [List.take_succ_eq_append_getElem hlt, esc_snoc])
      have i1 : (0 : Int) ≤ (k : Int) := by omega
      have i2 : (k : Int) < (p.length : Int) := by omega
      generalize esc (p.take k) = q at *
      by_cases h10 : (p[k]).toNat = 10
      · have HE := Lib.hid (show esc1 p[k] = [92, 110] by unfold esc1; rw [if_pos (UInt8.toNat_inj.1 h10)])
        have j1 : ((p[k]).toNat : Int) = 10 := by omega
        clear h10
        go_wp2_with fail
        go_round
        case rel => exact ⟨k + 1, by omega, by go_num, by rw [HS.out, HE.out]⟩
        case measure => simp [intOf]; omega
      · by_cases h92 : (p[k]).toNat = 92
        · have HE := Lib.hid (show esc1 p[k] = [92, 92] by unfold esc1; rw [if_neg (fun h => h10 (by rw [h]; rfl)), if_pos (UInt8.toNat_inj.1 h92)])
          have j1 : ((p[k]).toNat : Int) = 92 := by omega
          clear h10 h92
          go_wp2_with fail
          go_round
          case rel => exact ⟨k + 1, by omega, by go_num, by rw [HS.out, HE.out]⟩
          case measure => simp [intOf]; omega
        · have HE := Lib.hid (show esc1 p[k] = [p[k]] by unfold esc1; rw [if_neg (fun h => h10 (by rw [h]; rfl)), if_neg (fun h => h92 (by rw [h]; rfl))])
          have j1 : (((p[k]).toNat : Int) == 10) = false := by rw [beq_eq_false_iff_ne]; omega
          have j2 : (((p[k]).toNat : Int) == 92) = false := by rw [beq_eq_false_iff_ne]; omega
          clear h10 h92
          go_wp2_with fail
          go_round
          case rel => exact ⟨k + 1, by omega, by go_num, by rw [HS.out, HE.out, ← one_slice p k hlt]⟩
          case measure => simp [intOf]; omega
    · obtain rfl : k = p.length := by omega
      rw [List.take_length] at le1 ⊢
      have hlen : (recB a c p).length ≤ 250 := by rw [HX.out, List.length_append]; omega
      rw [← HX.out]
      generalize recB a c p = q at *
      have hsm := smS_lt q 0 (by omega)
      have hns := nm_len (n := smS 0 q) (by omega)
      have N1 := Lib.hid (fun w => l22Number_any (smS 0 q) w (by omega))
      go_wp2_with fail
      refine (l22Sum_any q _ (by unfold maxLen; omega)).mono ?_
      rintro e w3 ⟨rfl, rfl⟩
      generalize smS 0 q = m at *
      go_wp2_with fail
      refine (N1.out _).mono ?_
      rintro e w3 ⟨rfl, hb3⟩
      have hW3 := up_trans hW hb3
      clear hb3 xc
      go_wp2_with fail
      go_ret
      rw [HR.out]
      exact ⟨by simp, hW3⟩

end Go.Proofs.YtdngdlcibaiekaaGreatDoor
