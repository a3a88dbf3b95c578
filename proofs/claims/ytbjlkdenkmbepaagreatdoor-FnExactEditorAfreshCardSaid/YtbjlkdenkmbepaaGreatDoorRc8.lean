/- What is proved here: What is proved here: contracts of the reference's numbers and sums, and of the program's sums. What is proved here: the contract of the reference's l22Value. What is proved here: the contract of the reference's RecordText. No condition. -/
import Derived.Test.YtbjlkdenkmbepaaGreatDoorRc1
import Derived.Test.YtbjlkdenkmbepaaGreatDoorMark
import Derived.Test.YtbjlkdenkmbepaaGreatDoorRc9
import Derived.Test.YtbjlkdenkmbepaaGreatDoorReg
import Derived.Test.YtbjlkdenkmbepaaGreatDoorHist0
namespace Go.Proofs.YtbjlkdenkmbepaaGreatDoor
open Go.RowKit
set_option linter.unusedVariables false

/-- all digits but the last. -/
def hiD (q : Nat) : List UInt8 := if q < 10 then [] else nm (q / 10)
theorem nm_hi (q : Nat) : nm q = hiD q ++ [dg q] := by
  unfold hiD
  split
  · rename_i h
    rw [nm_small h]
    unfold dg
    rw [Nat.mod_eq_of_lt h]
    rfl
  · rename_i h
    rw [nm_big h]
    rfl

set_option maxRecDepth 100000 in
set_option maxHeartbeats 400000 in
theorem l22Number_any (n : Nat) (w : World) (hn : n < 1000) :
    Calls Tryz.prog 152 #[.int .i64 n] w fun e w' => e = .returned (S (nm n)) ∧ Below w.heap.size w w' := by
  have hd := digit_str
  have hl := nm_len hn
  go_enter Tryz.func152, Tryz.ntmps152
  go_wp2_with fail
  go_loopw [0, 3] (fun i s wr => ∃ (q : Nat) (o : List UInt8), q < 1000 ∧ o.length ≤ 3 ∧ i = .int .i64 q ∧ s = S o ∧ Hid (nm n = hiD q ++ o) ∧ Below w.heap.size w wr) (fun i _ _ => (intOf i).toNat)
  case atStart => exact ⟨n, [dg n], hn, by simp, rfl, rfl, Lib.hid (nm_hi n), by (repeat (first | exact Below.refl _ _ | assumption | refine Below.drew ?_ | refine up_drewN ?_ _ | refine up_alloc ?_ _ | refine up_set ?_ _ _ (by first | exact Nat.le_refl _ | (simp; done) | (simp; omega) | omega) | refine up_trans ?_ (by assumption)))⟩
  case round =>
    obtain ⟨q, o, hq, ho, rfl, rfl, heq, hW⟩ := hrel
    by_cases hlt : 9 < q
    · have i1 : (9 : Int) < (q : Int) := by omega
      have HS := Lib.hid (show nm n = hiD (q / 10) ++ (dg (q / 10) :: o) by
        rw [heq.out, show hiD q = nm (q / 10) from if_neg (by omega), nm_hi (q / 10)]
        simp)
      have hlen : o.length + 1 ≤ 3 := by
        have := congrArg List.length HS.out
        simp at this
        omega
      have e1 : IntKind.i64.wrap ((q : Int).tdiv 10) = ((q / 10 : Nat) : Int) := by rw [Int.tdiv_eq_ediv_of_nonneg (by omega), IntWalk.i64_in _ (by omega)]; omega
      have hd2 := hd wr (q / 10)
      rw [show ((q / 10 : Nat) : Int) = (q : Int) / 10 by omega] at hd2
      clear e1
      go_wp2_with fail
      go_roundw
      case rel => exact ⟨q / 10, dg (q / 10) :: o, by omega, by simp; omega, by go_num, rfl, HS, by (repeat (first | exact Below.refl _ _ | assumption | refine Below.drew ?_ | refine up_drewN ?_ _ | refine up_alloc ?_ _ | refine up_set ?_ _ _ (by first | exact Nat.le_refl _ | (simp; done) | (simp; omega) | omega) | refine up_trans ?_ (by assumption)))⟩
      case measure => simp [intOf]; omega
    · have i1 : ¬ (9 : Int) < (q : Int) := by omega
      have HE := Lib.hid (show nm n = o by rw [heq.out, show hiD q = [] from if_pos (by omega)]; rfl)
      go_wp2_with fail
      go_ret
      rw [HE.out]
      exact ⟨rfl, hW⟩

set_option maxRecDepth 100000 in
theorem l22Sum_any (s : List UInt8) (w : World) (hs : s.length ≤ maxLen) :
    Calls Tryz.prog 153 #[S s] w fun e w' => e = .returned (.int .i64 (smS 0 s : Nat)) ∧ w = w' := by
  unfold maxLen at hs
  obtain ⟨z, hz⟩ : ∃ z, z = smS 0 s := ⟨_, rfl⟩
  have HZ := Lib.hid hz
  rw [← hz]
  clear hz
  go_enter Tryz.func153, Tryz.ntmps153
  go_wp2_with fail
  go_loop [3, 4] (fun n i => ∃ (k q : Nat), k ≤ s.length ∧ i = .int .i64 k ∧ n = .int .i64 q ∧ q < 997 ∧ Hid (q = smS 0 (s.take k))) (fun _ i => s.length - (intOf i).toNat)
  case atStart => exact ⟨0, 0, Nat.zero_le _, rfl, rfl, by omega, Lib.hid rfl⟩
  case round =>
    obtain ⟨k, q, hk, rfl, rfl, hq, HQ⟩ := hrel
    by_cases hlt : k < s.length
    · have i1 : (0 : Int) ≤ (k : Int) := by omega
      have i2 : (k : Int) < (s.length : Int) := by omega
      have HS := Lib.hid (show (31 * q + (s[k]).toNat) % 997 = smS 0 (s.take (k + 1)) by rw [List.take_succ_eq_append_getElem hlt, smS_snoc, HQ.out])
      have hc2 := UInt8.toNat_lt s[k]
      go_wp2_with fail
      go_round
      case rel => exact ⟨k + 1, (31 * q + (s[k]).toNat) % 997, by omega, by go_num, by go_num, by omega, HS⟩
      case measure => simp [intOf]; omega
    · obtain rfl : k = s.length := by omega
      have HF := Lib.hid (show z = q by rw [HZ.out, HQ.out, List.take_length])
      go_wp2_with fail
      go_ret
      exact ⟨ret_int (by rw [HF.out]), rfl⟩

end Go.Proofs.YtbjlkdenkmbepaaGreatDoor

namespace Go.Proofs.YtbjlkdenkmbepaaGreatDoor
open Go.RowKit
set_option linter.unusedVariables false

theorem dgB_out {c : UInt8} : dgB c = true ↔ 48 ≤ c.toNat ∧ c.toNat ≤ 57 := by simp [dgB]

set_option maxRecDepth 100000 in
set_option maxHeartbeats 1000000 in
theorem l22Value_any (s : List UInt8) (k : Nat) (w : World) (hk : k ≤ s.length) (hs : s.length ≤ 1048577) :
    Calls Tryz.prog 151 #[S s, .int .i64 k] w fun e w' => e = .returned (.tuple #[.int .i64 (vAt s k).1, .int .i64 ((vAt s k).2 : Nat)]) ∧ w = w' := by
  obtain ⟨z, hz⟩ : ∃ z, z = vAt s k := ⟨_, rfl⟩
  have HZ := Lib.hid hz
  rw [← hz]
  clear hz
  go_enter Tryz.func151, Tryz.ntmps151
  go_wp2_with fail
  go_loop [1, 6] (fun i n => ∃ (j q : Nat), j ≤ 4 ∧ k + j ≤ s.length ∧ i = .int .i64 (k + j : Nat) ∧ n = .int .i64 q ∧ q < 10000 ∧ Hid (q = vl 0 ((s.drop k).take j)) ∧ Hid (∀ c ∈ (s.drop k).take j, dgB c = true)) (fun i _ => s.length - (intOf i).toNat)
  case atStart => exact ⟨0, 0, by omega, hk, rfl, rfl, by omega, Lib.hid rfl, Lib.hid (by simp)⟩
  case round =>
    obtain ⟨j, q, hj, hkj, rfl, rfl, hq, HQ, HD⟩ := hrel
    have HE := Lib.hid (fun (h : dgs s k = (s.drop k).take j) => (show z = if j = 0 ∨ s[k + j]? ≠ some 32 then (-1, k + j) else ((q : Int), k + j + 1) by
      have hl : ((s.drop k).take j).length = j := by rw [List.length_take, List.length_drop]; omega
      rw [HZ.out, vAt, h, hl, HQ.out]))
    by_cases hlt : k + j < s.length
    · have i1 : (0 : Int) ≤ ((k + j : Nat) : Int) := by omega
      have i2 : ((k + j : Nat) : Int) < (s.length : Int) := by omega
      have hc2 := UInt8.toNat_lt s[k + j]
      by_cases hd : dgB s[k + j] = true ∧ j < 4
      · have hd2 := dgB_out.1 hd.1
        have i3 : (48 : Int) ≤ ((s[k + j]).toNat : Int) := by omega
        have i4 : ((s[k + j]).toNat : Int) ≤ 57 := by omega
        have HV := Lib.hid (vl_step hlt)
        have HD2 := Lib.hid (dg_more hlt HD.out hd.1)
        have HV4 := vl_four (s := s) (k := k) (j := j + 1) (by omega) HD2.out
        rw [HV.out, ← HQ.out] at HV4
        have i5 : (j : Int) < 4 := by omega
        have i6 : IntKind.i64.wrap (((k + j : Nat) : Int) - (k : Int)) = (j : Int) := by rw [IntWalk.i64_in _ (by omega)]; omega
        go_wp2_with fail
        go_round
        case rel => exact ⟨j + 1, 10 * q + ((s[k + j]).toNat - 48), by omega, by omega, by go_num, by go_num, HV4, Lib.hid (by rw [HV.out, HQ.out]), HD2⟩
        case measure => simp [intOf]; omega
      · have HF : dgs s k = (s.drop k).take j := by
          refine dgs_end hj HD.out ?_
          by_cases h4 : j = 4
          · exact .inl h4
          · refine .inr (.inr ⟨hlt, ?_⟩)
            cases h : dgB s[k + j] with
            | false => rfl
            | true => exact absurd ⟨h, by omega⟩ hd
        have hz := HE.out HF
        rw [dgB_out] at hd
        rw [List.getElem?_eq_getElem hlt] at hz
        have hget : (some s[k + j] ≠ some (32 : UInt8)) ↔ ¬ (s[k + j]).toNat = 32 := by
          rw [ne_eq, Option.some.injEq, ← UInt8.toNat_inj]
          rfl
        have i6 : IntKind.i64.wrap (((k + j : Nat) : Int) - (k : Int)) = (j : Int) := by rw [IntWalk.i64_in _ (by omega)]; omega
        have i7 : IntKind.i64.wrap (((k + j : Nat) : Int) + 1) = ((k + j + 1 : Nat) : Int) := by rw [IntWalk.i64_in _ (by omega)]; omega
        have hd3 : 48 ≤ (s[k + j]).toNat → (s[k + j]).toNat ≤ 57 → ¬ j < 4 := fun a b c => hd ⟨⟨a, b⟩, c⟩
        by_cases h0 : j = 0
        · rw [if_pos (.inl h0)] at hz
          have HZ2 := Lib.hid hz
          subst h0
          clear hz HE HF HQ HD HZ hget hd
          have e0 : (((k + 0 : Nat) : Int) == (k : Int)) = true := by simp
          rcases (show (s[k + 0]).toNat < 48 ∨ (48 ≤ (s[k + 0]).toNat ∧ 57 < (s[k + 0]).toNat) by have := hd3; omega) with h1 | ⟨h1, h2⟩
          · have j1 : ¬ (48 : Int) ≤ ((s[k + 0]).toNat : Int) := by omega
            clear hd3
            go_wp2_with fail
            refine bodyPost_ret (v := .tuple #[.int .i64 (-1), .int .i64 ((k + 0 : Nat) : Int)]) (by simp [results, Tryz.results151, go_sem]) rfl ⟨by rw [HZ2.out], rfl⟩
          · have j1 : (48 : Int) ≤ ((s[k + 0]).toNat : Int) := by omega
            have j2 : ¬ ((s[k + 0]).toNat : Int) ≤ 57 := by omega
            clear hd3
            go_wp2_with fail
            refine bodyPost_ret (v := .tuple #[.int .i64 (-1), .int .i64 ((k + 0 : Nat) : Int)]) (by simp [results, Tryz.results151, go_sem]) rfl ⟨by rw [HZ2.out], rfl⟩
        · have e0 : ((k : Int) + (j : Int) == (k : Int)) = false := by rw [beq_eq_false_iff_ne]; omega
          by_cases h32 : (s[k + j]).toNat = 32
          · have HZ2 := Lib.hid (hz.trans (if_neg (by rw [hget]; intro h; rcases h with h | h; exact h0 h; exact h h32)))
            have j1 : ¬ (48 : Int) ≤ ((s[k + j]).toNat : Int) := by omega
            have j3 : ((s[k + j]).toNat : Int) = 32 := by omega
            clear hz HE HF HQ HD HZ hget hd hd3 h32
            go_wp2_with fail
            refine bodyPost_ret (v := .tuple #[.int .i64 q, .int .i64 ((k + j + 1 : Nat) : Int)]) (by simp [results, Tryz.results151, go_sem]) rfl ⟨by rw [HZ2.out], rfl⟩
          · have HZ2 := Lib.hid (hz.trans (if_pos (.inr (hget.2 h32))))
            have j3 : (((s[k + j]).toNat : Int) != 32) = true := by rw [bne_iff_ne]; omega
            rcases (show (s[k + j]).toNat < 48 ∨ (48 ≤ (s[k + j]).toNat ∧ 57 < (s[k + j]).toNat) ∨ (48 ≤ (s[k + j]).toNat ∧ (s[k + j]).toNat ≤ 57 ∧ ¬ j < 4) by have := hd3; omega) with h1 | ⟨h1, h2⟩ | ⟨h1, h2, h3⟩
            · have j1 : ¬ (48 : Int) ≤ ((s[k + j]).toNat : Int) := by omega
              clear hz HE HF HQ HD HZ hget hd hd3 h32
              go_wp2_with fail
              refine bodyPost_ret (v := .tuple #[.int .i64 (-1), .int .i64 ((k + j : Nat) : Int)]) (by simp [results, Tryz.results151, go_sem]) rfl ⟨by rw [HZ2.out], rfl⟩
            · have j1 : (48 : Int) ≤ ((s[k + j]).toNat : Int) := by omega
              have j2 : ¬ ((s[k + j]).toNat : Int) ≤ 57 := by omega
              clear hz HE HF HQ HD HZ hget hd hd3 h32
              go_wp2_with fail
              refine bodyPost_ret (v := .tuple #[.int .i64 (-1), .int .i64 ((k + j : Nat) : Int)]) (by simp [results, Tryz.results151, go_sem]) rfl ⟨by rw [HZ2.out], rfl⟩
            · have j1 : (48 : Int) ≤ ((s[k + j]).toNat : Int) := by omega
              have j2 : ((s[k + j]).toNat : Int) ≤ 57 := by omega
              have j4 : ¬ (k : Int) + (j : Int) - (k : Int) < 4 := by omega
              clear hz HE HF HQ HD HZ hget hd hd3 h32
              go_wp2_with fail
              refine bodyPost_ret (v := .tuple #[.int .i64 (-1), .int .i64 ((k + j : Nat) : Int)]) (by simp [results, Tryz.results151, go_sem]) rfl ⟨by rw [HZ2.out], rfl⟩
    · have HF : dgs s k = (s.drop k).take j := dgs_end hj HD.out (.inr (.inl (by omega)))
      have hz := HE.out HF
      rw [if_pos (.inr (by rw [List.getElem?_eq_none (by omega)]; simp))] at hz
      have HZ2 := Lib.hid hz
      have i2 : ¬ ((k + j : Nat) : Int) < (s.length : Int) := by omega
      have i3 : (s.length : Int) ≤ ((k + j : Nat) : Int) := by omega
      clear hz HE HF HQ HD HZ
      by_cases h0 : j = 0
      · subst h0
        have e0 : (((k + 0 : Nat) : Int) == (k : Int)) = true := by simp
        go_wp2_with fail
        refine bodyPost_ret (v := .tuple #[.int .i64 (-1), .int .i64 ((k + 0 : Nat) : Int)]) (by simp [results, Tryz.results151, go_sem]) rfl ⟨by rw [HZ2.out], rfl⟩
      · have e0 : ((k : Int) + (j : Int) == (k : Int)) = false := by rw [beq_eq_false_iff_ne]; omega
        go_wp2_with fail
        refine bodyPost_ret (v := .tuple #[.int .i64 (-1), .int .i64 ((k + j : Nat) : Int)]) (by simp [results, Tryz.results151, go_sem]) rfl ⟨by rw [HZ2.out], rfl⟩

end Go.Proofs.YtbjlkdenkmbepaaGreatDoor

namespace Go.Proofs.YtbjlkdenkmbepaaGreatDoor
open Go.RowKit
set_option linter.unusedVariables false

theorem esc_snoc (l : List UInt8) (c : UInt8) : esc (l ++ [c]) = esc l ++ esc1 c := by simp [esc]
theorem recB_pre (a b : Nat) (p : List UInt8) : recB a b p = (nm a ++ 32 :: (nm b ++ [32])) ++ esc p := by simp [recB]

theorem one_slice (p : List UInt8) (k : Nat) (h : k < p.length) : (p.take (k + 1)).drop k = [p[k]] := by
  rw [List.take_succ_eq_append_getElem h, List.drop_left' (by rw [List.length_take]; omega)]

set_option maxRecDepth 100000 in
set_option maxHeartbeats 1000000 in
theorem specRecordText_any (x : Ch) (w : World) (hp : x.p.length ≤ 1048576) :
    Calls Tryz.prog 124 #[chAgg x] w fun e w' => e = .returned (S (recT x.a x.c x.p)) ∧ Below w.heap.size w w' := by
  obtain ⟨a, c, p⟩ := x
  simp only at hp
  unfold chAgg
  simp only
  rcases ha : inB a 0 120 with _ | _
  · have HR := Lib.hid (show recT a c p = [] by unfold recT recOk; rw [ha]; rfl)
    generalize recT a c p = r at *
    go_enter Tryz.func124, Tryz.ntmps124
    go_wp2_with (go_at_call 79; refine (l1In_any _ _ _ _).mono ?_; rintro e w1 ⟨rfl, rfl⟩)
    go_ret
    rw [HR.out]
    exact ⟨rfl, by (repeat (first | exact Below.refl _ _ | assumption | refine Below.drew ?_ | refine up_drewN ?_ _ | refine up_alloc ?_ _ | refine up_set ?_ _ _ (by first | exact Nat.le_refl _ | (simp; done) | (simp; omega) | omega) | refine up_trans ?_ (by assumption)))⟩
  rcases hc : inB c 0 120 with _ | _
  · have HR := Lib.hid (show recT a c p = [] by unfold recT recOk; rw [ha, hc]; rfl)
    generalize recT a c p = r at *
    go_enter Tryz.func124, Tryz.ntmps124
    go_wp2_with (go_at_call 79; refine (l1In_any _ _ _ _).mono ?_; rintro e w1 ⟨rfl, rfl⟩)
    go_ret
    rw [HR.out]
    exact ⟨rfl, by (repeat (first | exact Below.refl _ _ | assumption | refine Below.drew ?_ | refine up_drewN ?_ _ | refine up_alloc ?_ _ | refine up_set ?_ _ _ (by first | exact Nat.le_refl _ | (simp; done) | (simp; omega) | omega) | refine up_trans ?_ (by assumption)))⟩
  have hml : p.length ≤ maxLen := by unfold maxLen; omega
  rcases ht : tv p with _ | _
  · have HR := Lib.hid (show recT a c p = [] by unfold recT recOk; rw [ha, hc, ht]; rfl)
    generalize recT a c p = r at *
    go_enter Tryz.func124, Tryz.ntmps124
    go_wp2_with (first | (go_at_call 79; refine (l1In_any _ _ _ _).mono ?_; rintro e w1 ⟨rfl, rfl⟩) | (go_at_call 32; refine (specTextValid_any p _ hml).mono ?_; rintro e w1 ⟨rfl, rfl⟩))
    go_ret
    rw [HR.out]
    exact ⟨rfl, by (repeat (first | exact Below.refl _ _ | assumption | refine Below.drew ?_ | refine up_drewN ?_ _ | refine up_alloc ?_ _ | refine up_set ?_ _ _ (by first | exact Nat.le_refl _ | (simp; done) | (simp; omega) | omega) | refine up_trans ?_ (by assumption)))⟩
  have hR : recT a c p = recX a.toNat c.toNat p := by unfold recT recOk; rw [ha, hc, ht]; rfl
  have HAI := Lib.hid ha
  have HCI := Lib.hid hc
  have ha2 := inB_iff.1 ha
  have hc2 := inB_iff.1 hc
  have hl := tv_len ht
  obtain ⟨a, rfl⟩ := Int.eq_ofNat_of_zero_le ha2.1
  obtain ⟨c, rfl⟩ := Int.eq_ofNat_of_zero_le hc2.1
  rw [Int.toNat_natCast, Int.toNat_natCast] at hR
  have ha3 : a ≤ 120 := by omega
  have hc3 : c ≤ 120 := by omega
  have la := nm_len (n := a) (by omega)
  have lc := nm_len (n := c) (by omega)
  obtain ⟨pre, hpre⟩ : ∃ pre, pre = nm a ++ 32 :: (nm c ++ [32]) := ⟨_, rfl⟩
  have lpre : pre.length ≤ 8 := by rw [hpre]; simp; omega
  have HX := Lib.hid (show recB a c p = pre ++ esc p by rw [recB_pre, hpre])
  have HR := Lib.hid (show recT (a : Int) (c : Int) p = (recB a c p ++ [32]) ++ nm (smS 0 (recB a c p)) by rw [hR]; simp [recX])
  generalize recT (a : Int) (c : Int) p = r at *
  clear hR ha2 hc2
  go_enter Tryz.func124, Tryz.ntmps124
  go_wp2_with (first | (go_at_call 79; refine (l1In_any _ _ _ _).mono ?_; rintro e w1 ⟨rfl, rfl⟩) | (go_at_call 32; refine (specTextValid_any p _ hml).mono ?_; rintro e w1 ⟨rfl, rfl⟩))
  obtain ⟨w1, hw1⟩ : ∃ z, z = w.alloc (.cells #[.int .i64 (a : Int), .int .i64 (c : Int), S p] 78) := ⟨_, rfl⟩
  have hb : Below w.heap.size w w1 := by rw [hw1]; (repeat (first | exact Below.refl _ _ | assumption | refine Below.drew ?_ | refine up_drewN ?_ _ | refine up_alloc ?_ _ | refine up_set ?_ _ _ (by first | exact Nat.le_refl _ | (simp; done) | (simp; omega) | omega) | refine up_trans ?_ (by assumption)))
  have xc : ∀ o, w1.cell? ⟨w.heap.size, o, none⟩ = #[.int .i64 (a : Int), .int .i64 (c : Int), S p][o]? := fun o => by rw [hw1]; simp [go_sem]
  have xz : w.heap.size < w1.heap.size := by rw [hw1]; simp
  rw [← hw1]
  clear hw1
  have hne := UpW.nonempty w1
  have CA := Lib.hid (fun y : UpW w1 => calls_up (l22Number_any a (y.at w1) (by omega)))
  have CC := Lib.hid (fun y : UpW w1 => calls_up (l22Number_any c (y.at w1) (by omega)))
  refine wp_region_up_lit (by kernel_rfl) (by kernel_rfl) ?_
  repeat (go_big_quiet_step ((go_at_call 152; first | (with_reducible exact CA.out _) | (with_reducible exact CC.out _))))
  refine wpQuiet_nil ?_
  intro w2 hb2
  replace hb2 := UpW.out hb2
  rw [← hpre]
  replace xc := up_c hb2 xz xc
  replace xz := Nat.lt_of_lt_of_le xz hb2.size
  have hW : Below w.heap.size w w2 := up_trans hb hb2
  have le0 : ∀ k, (esc (p.take k)).length ≤ 240 := fun k => by have := esc_len (p.take k); rw [List.length_take] at this; omega
  clear CA CC hne hb hb2 hpre ha hc ht la lc
  go_wp2_with fail
  go_loop [3, 4] (fun o i => ∃ k : Nat, k ≤ p.length ∧ i = .int .i64 k ∧ o = S (pre ++ esc (p.take k))) (fun _ i => p.length - (intOf i).toNat)
  case atStart => exact ⟨0, Nat.zero_le _, rfl, by simp [esc]⟩
  case round =>
    obtain ⟨k, hk, rfl, rfl⟩ := hrel
    have le1 := le0 k
    by_cases hlt : k < p.length
    · have HS := Lib.hid (show esc (p.take (k + 1)) = esc (p.take k) ++ esc1 p[k] by rw [List.take_succ_eq_append_getElem hlt, esc_snoc])
      have i1 : (0 : Int) ≤ (k : Int) := by omega
      have i2 : (k : Int) < (p.length : Int) := by omega
      generalize esc (p.take k) = q at *
      by_cases h10 : (p[k]).toNat = 10
      · have HE := Lib.hid (show esc1 p[k] = [92, 110] by unfold esc1; rw [if_pos (UInt8.toNat_inj.1 h10)])
        have j1 : ((p[k]).toNat : Int) = 10 := by omega
        clear h10
        go_wp2_with fail
        go_round
        case rel => exact ⟨k + 1, by omega, by go_num, by rw [HS.out, HE.out]⟩
        case measure => simp [intOf]; omega
      · by_cases h92 : (p[k]).toNat = 92
        · have HE := Lib.hid (show esc1 p[k] = [92, 92] by unfold esc1; rw [if_neg (fun h => h10 (by rw [h]; rfl)), if_pos (UInt8.toNat_inj.1 h92)])
          have j1 : ((p[k]).toNat : Int) = 92 := by omega
          clear h10 h92
          go_wp2_with fail
          go_round
          case rel => exact ⟨k + 1, by omega, by go_num, by rw [HS.out, HE.out]⟩
          case measure => simp [intOf]; omega
        · have HE := Lib.hid (show esc1 p[k] = [p[k]] by unfold esc1; rw [if_neg (fun h => h10 (by rw [h]; rfl)), if_neg (fun h => h92 (by rw [h]; rfl))])
          have j1 : (((p[k]).toNat : Int) == 10) = false := by rw [beq_eq_false_iff_ne]; omega
          have j2 : (((p[k]).toNat : Int) == 92) = false := by rw [beq_eq_false_iff_ne]; omega
          clear h10 h92
          go_wp2_with fail
          go_round
          case rel => exact ⟨k + 1, by omega, by go_num, by rw [HS.out, HE.out, ← one_slice p k hlt]⟩
          case measure => simp [intOf]; omega
    · obtain rfl : k = p.length := by omega
      rw [List.take_length] at le1 ⊢
      have hlen : (recB a c p).length ≤ 250 := by rw [HX.out, List.length_append]; omega
      rw [← HX.out]
      generalize recB a c p = q at *
      have hsm := smS_lt q 0 (by omega)
      have hns := nm_len (n := smS 0 q) (by omega)
      have N1 := Lib.hid (fun w => l22Number_any (smS 0 q) w (by omega))
      go_wp2_with fail
      refine (l22Sum_any q _ (by unfold maxLen; omega)).mono ?_
      rintro e w3 ⟨rfl, rfl⟩
      generalize smS 0 q = m at *
      go_wp2_with fail
      refine (N1.out _).mono ?_
      rintro e w3 ⟨rfl, hb3⟩
      have hW3 := up_trans hW hb3
      clear hb3 xc
      go_wp2_with fail
      go_ret
      rw [HR.out]
      exact ⟨by simp, hW3⟩

end Go.Proofs.YtbjlkdenkmbepaaGreatDoor
