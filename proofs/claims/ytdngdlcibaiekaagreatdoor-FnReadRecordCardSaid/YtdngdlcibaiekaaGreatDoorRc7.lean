/- What is proved here: the contract of the reference's l22Value. No condition. -/
import Derived.Test.YtdngdlcibaiekaaGreatDoorRc2
import Derived.Test.YtdngdlcibaiekaaGreatDoorRc6
namespace Go.Proofs.YtdngdlcibaiekaaGreatDoor
open Go.RowKit
set_option linter.unusedVariables false

theorem dgB_out {c : UInt8} : dgB c = true ↔ 48 ≤ c.toNat ∧ c.toNat ≤ 57 := by simp [dgB]

set_option maxRecDepth 100000 in
set_option maxHeartbeats 1000000 in
theorem l22Value_any (s : List UInt8) (k : Nat) (w : World) (hk : k ≤ s.length) (hs : s.length ≤ 1048577) :
    Calls Tryz.prog 37 #[S s, .int .i64 k] w fun e w' => e = .returned (.tuple #[.int .i64 (vAt s k).1, .int .i64 ((vAt s k).2 : Nat)]) ∧ w = w' := by
  obtain ⟨z, hz⟩ : ∃ z, z = vAt s k := ⟨_, rfl⟩
  have HZ := Lib.hid hz
  rw [← hz]
  clear hz
  go_enter Tryz.func37, Tryz.ntmps37
  go_wp2_with fail
  go_loop [1, 6] (fun i n => ∃ (j q : Nat), j ≤ 4 ∧ k + j ≤ s.length ∧ i = .int .i64 (k + j : Nat) ∧ n = .int .i64 q ∧ q < 10000 ∧ Hid (q = vl 0 ((s.drop k).take j)) ∧ Hid (∀ c ∈ (s.drop k).take j, dgB c = true)) (fun i _ => s.length - (intOf i).toNat)
  case atStart => exact ⟨0, 0, by omega, hk, rfl, rfl, by omega, Lib.hid rfl, Lib.hid (by simp)⟩
  case round =>
    obtain ⟨j, q, hj, hkj, rfl, rfl, hq, HQ, HD⟩ := hrel
    have HE := Lib.hid (fun (h : dgs s k = (s.drop k).take j) => (show z = if j = 0 ∨ s[k + j]? ≠ some 32 then (-1, k + j) else ((q : Int), k + j + 1) by
      have hl : ((s.drop k).take j).length = j := by rw [List.length_take, List.length_drop]; omega
      rw [HZ.out, vAt, h, hl, HQ.out]))
    by_cases hlt : k + j < s.length
    · have i1 : (0 : Int) ≤ ((k + j : Nat) : Int) := by omega
      have i2 : ((k + j : Nat) : Int) < (s.length : Int) := by omega
      have hc2 := UInt8.toNat_lt s[k + j]
      by_cases hd : dgB s[k + j] = true ∧ j < 4
      · have hd2 := dgB_out.1 hd.1
        have i3 : (48 : Int) ≤ ((s[k + j]).toNat : Int) := by omega
        have i4 : ((s[k + j]).toNat : Int) ≤ 57 := by omega
        have HV := Lib.hid (vl_step hlt)
        have HD2 := Lib.hid (dg_more hlt HD.out hd.1)
        have HV4 := vl_four (s := s) (k := k) (j := j + 1) (by omega) HD2.out
        rw [HV.out, ← HQ.out] at HV4
        have i5 : (j : Int) < 4 := by omega
        have i6 : IntKind.i64.wrap (((k + j : Nat) : Int) - (k : Int)) = (j : Int) := by rw [IntWalk.i64_in _ (by omega)]; omega
        go_wp2_with fail
        go_round
        case rel => exact ⟨j + 1, 10 * q + ((s[k + j]).toNat - 48), by omega, by omega, by go_num, by go_num, HV4, Lib.hid (by rw [HV.out, HQ.out]), HD2⟩
        case measure => simp [intOf]; omega
      · have HF : dgs s k = (s.drop k).take j := by
          refine dgs_end hj HD.out ?_
          by_cases h4 : j = 4
          · exact .inl h4
          · refine .inr (.inr ⟨hlt, ?_⟩)
            cases h : dgB s[k + j] with
            | false => rfl
            | true => exact absurd ⟨h, by omega⟩ hd
        have hz := HE.out HF
        rw [dgB_out] at hd
        rw [List.getElem?_eq_getElem hlt] at hz
        have hget : (some s[k + j] ≠ some (32 : UInt8)) ↔ ¬ (s[k + j]).toNat = 32 := by
          rw [ne_eq, Option.some.injEq, ← UInt8.toNat_inj]
          rfl
        have i6 : IntKind.i64.wrap (((k + j : Nat) : Int) - (k : Int)) = (j : Int) := by rw [IntWalk.i64_in _ (by omega)]; omega
        have i7 : IntKind.i64.wrap (((k + j : Nat) : Int) + 1) = ((k + j + 1 : Nat) : Int) := by rw [IntWalk.i64_in _ (by omega)]; omega
        have hd3 : 48 ≤ (s[k + j]).toNat → (s[k + j]).toNat ≤ 57 → ¬ j < 4 := fun a b c => hd ⟨⟨a, b⟩, c⟩
        by_cases h0 : j = 0
        · rw [if_pos (.inl h0)] at hz
          have HZ2 := Lib.hid hz
          subst h0
          clear hz HE HF HQ HD HZ hget hd
          have e0 : (((k + 0 : Nat) : Int) == (k : Int)) = true := by simp
          rcases (show (s[k + 0]).toNat < 48 ∨ (48 ≤ (s[k + 0]).toNat ∧ 57 < (s[k + 0]).toNat) by have := hd3; omega) with h1 | ⟨h1, h2⟩
          · have j1 : ¬ (48 : Int) ≤ ((s[k + 0]).toNat : Int) := by omega
            clear hd3
            go_wp2_with fail
            refine bodyPost_ret (v := .tuple #[.int .i64 (-1), .int .i64 ((k + 0 : Nat) : Int)]) (by simp [results, Tryz.results37, go_sem]) rfl ⟨by rw [HZ2.out], rfl⟩
          · have j1 : (48 : Int) ≤ ((s[k + 0]).toNat : Int) := by omega
            have j2 : ¬ ((s[k + 0]).toNat : Int) ≤ 57 := by omega
            clear hd3
            go_wp2_with fail
            refine bodyPost_ret (v := .tuple #[.int .i64 (-1), .int .i64 ((k + 0 : Nat) : Int)]) (by simp [results, Tryz.results37, go_sem]) rfl ⟨by rw [HZ2.out], rfl⟩
        · have e0 : ((k : Int) + (j : Int) == (k : Int)) = false := by rw [beq_eq_false_iff_ne]; omega
          by_cases h32 : (s[k + j]).toNat = 32
          · have HZ2 := Lib.hid (hz.trans (if_neg (by rw [hget]; intro h; rcases h with h | h; exact h0 h; exact h h32)))
            have j1 : ¬ (48 : Int) ≤ ((s[k + j]).toNat : Int) := by omega
            have j3 : ((s[k + j]).toNat : Int) = 32 := by omega
            clear hz HE HF HQ HD HZ hget hd hd3 h32
            go_wp2_with fail
            refine bodyPost_ret (v := .tuple #[.int .i64 q, .int .i64 ((k + j + 1 : Nat) : Int)]) (by simp [results, Tryz.results37, go_sem]) rfl ⟨by rw [HZ2.out], rfl⟩
          · have HZ2 := Lib.hid (hz.trans (if_pos (.inr (hget.2 h32))))
            have j3 : (((s[k + j]).toNat : Int) != 32) = true := by rw [bne_iff_ne]; omega
            rcases (show (s[k + j]).toNat < 48 ∨ (48 ≤ (s[k + j]).toNat ∧ 57 < (s[k + j]).toNat) ∨ (48 ≤ (s[k + j]).toNat ∧ (s[k + j]).toNat ≤ 57 ∧ ¬ j < 4) by have := hd3; omega) with h1 | ⟨h1, h2⟩ | ⟨h1, h2, h3⟩
            · have j1 : ¬ (48 : Int) ≤ ((s[k + j]).toNat : Int) := by omega
              clear hz HE HF HQ HD HZ hget hd hd3 h32
              go_wp2_with fail
              refine bodyPost_ret (v := .tuple #[.int .i64 (-1), .int .i64 ((k + j : Nat) : Int)]) (by simp [results, Tryz.results37, go_sem]) rfl ⟨by rw [HZ2.out], rfl⟩
            · have j1 : (48 : Int) ≤ ((s[k + j]).toNat : Int) := by omega
              have j2 : ¬ ((s[k + j]).toNat : Int) ≤ 57 := by omega
              clear hz HE HF HQ HD HZ hget hd hd3 h32
              go_wp2_with fail
              refine bodyPost_ret (v := .tuple #[.int .i64 (-1), .int .i64 ((k + j : Nat) : Int)]) (by simp [results, Tryz.results37, go_sem]) rfl ⟨by rw [HZ2.out], rfl⟩
            · have j1 : (48 : Int) ≤ ((s[k + j]).toNat : Int) := by omega
              have j2 : ((s[k + j]).toNat : Int) ≤ 57 := by omega
              have j4 : ¬ (k : Int) + (j : Int) - (k : Int) < 4 := by omega
              clear hz HE HF HQ HD HZ hget hd hd3 h32
              go_wp2_with fail
              refine bodyPost_ret (v := .tuple #[.int .i64 (-1), .int .i64 ((k + j : Nat) : Int)]) (by simp [results, Tryz.results37, go_sem]) rfl ⟨by rw [HZ2.out], rfl⟩
    · have HF : dgs s k = (s.drop k).take j := dgs_end hj HD.out (.inr (.inl (by omega)))
      have hz := HE.out HF
      rw [if_pos (.inr (by rw [List.getElem?_eq_none (by omega)]; simp))] at hz
      have HZ2 := Lib.hid hz
      have i2 : ¬ ((k + j : Nat) : Int) < (s.length : Int) := by omega
      have i3 : (s.length : Int) ≤ ((k + j : Nat) : Int) := by omega
      clear hz HE HF HQ HD HZ
      by_cases h0 : j = 0
      · subst h0
        have e0 : (((k + 0 : Nat) : Int) == (k : Int)) = true := by simp
        go_wp2_with fail
        refine bodyPost_ret (v := .tuple #[.int .i64 (-1), .int .i64 ((k + 0 : Nat) : Int)]) (by simp [results, Tryz.results37, go_sem]) rfl ⟨by rw [HZ2.out], rfl⟩
      · have e0 : ((k : Int) + (j : Int) == (k : Int)) = false := by rw [beq_eq_false_iff_ne]; omega
        go_wp2_with fail
        refine bodyPost_ret (v := .tuple #[.int .i64 (-1), .int .i64 ((k + j : Nat) : Int)]) (by simp [results, Tryz.results37, go_sem]) rfl ⟨by rw [HZ2.out], rfl⟩

end Go.Proofs.YtdngdlcibaiekaaGreatDoor
