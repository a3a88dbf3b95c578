/- What is proved here: the contract of the reference's ReadRange. No condition. -/
import Derived.Test.YtbjlkdenkmbepaaGreatDoorAc1
import Derived.Test.YtbjlkdenkmbepaaGreatDoorBase
namespace Go.Proofs.YtbjlkdenkmbepaaGreatDoor
open Go.RowKit
set_option linter.unusedVariables false

/-- what the reference's ReadRange gives: the range, or none, or something behind which a digit stands. -/
def RsIs (s : List UInt8) (L : Nat) (f t n : Int) : Prop := (∃ a b k : Nat, rng s L = some (a, b, k) ∧ f = a ∧ t = b ∧ n = k) ∨ (rng s L = none ∧ ((f = -1 ∧ t = -1 ∧ n = 0) ∨ (∃ a b j : Nat, f = a ∧ t = b ∧ n = j ∧ a ≤ b ∧ b < L ∧ DgAt s j)))
def RsPost (s : List UInt8) (L : Nat) (w : World) (e : Ending) (w' : World) : Prop := ∃ f t n : Int, e = .returned (.tuple #[.int .i64 f, .int .i64 t, .int .i64 n]) ∧ RsIs s L f t n ∧ w = w'
theorem inBn {a lo hi : Int} (h : ¬ (lo ≤ a ∧ a ≤ hi)) : inB a lo hi = false := by
  rw [Bool.eq_false_iff]
  intro e
  exact h (inB_iff.1 e)
theorem rng_zero {s : List UInt8} (L : Nat) {k : Nat} (h : s.head? ≠ some 37) (hn : num s = some (0, k)) : rng s L = none := by
  by_cases hc : (s.drop k).head? = some 44
  · cases hm : num (s.drop (k + 1)) with
    | none => exact rng_half L h hn hc hm
    | some p =>
      obtain ⟨b, j⟩ := p
      rw [rng_two L h hn hc hm, if_neg (by omega)]
  · rw [rng_one L h hn hc, if_neg (by omega)]
theorem comma_no {s : List UInt8} {j : Nat} (h : DgAt s j) : ∃ hj : j < s.length, s[j] ≠ 44 := by
  obtain ⟨h1, h2⟩ := h
  refine ⟨h1, fun e => ?_⟩
  rw [e] at h2
  simp [dgB] at h2
set_option maxRecDepth 100000 in
set_option maxHeartbeats 2000000 in
theorem specReadRange_any (s : List UInt8) (L : Nat) (w : World) (hs : s.length ≤ 1048576) (h1 : 1 ≤ L) (h2 : L ≤ 121) :
    Calls Tryz.prog 93 #[S s, .int .i64 L] w (RsPost s L w) := by
  unfold RsPost
  have I0 := Lib.hid (inB_iff.2 (show (1 : Int) ≤ (L : Int) ∧ (L : Int) ≤ 121 by omega))
  have N0 := Lib.hid (fun w => l20Number_any s 0 w hs (Nat.zero_le _))
  unfold NsPost at N0
  cases s with
  | nil =>
    have HN := Lib.hid (show rng [] L = none from rng_no L (by simp) (num_empty (by simp)))
    have HX := Lib.hid (show ∀ x n, NsIs ([] : List UInt8) 0 x n → x = -1 ∧ n = 0 from fun x n h => by
      rcases h with ⟨a, k, h, _⟩ | ⟨_, ⟨h3, h4⟩ | ⟨_, _, j, _, _, h5, _⟩⟩
      · rw [List.drop_zero, num_empty (by simp)] at h; cases h
      · exact ⟨h3, h4⟩
      · simp at h5)
    have HIN := Lib.hid (inBn (a := -1) (lo := 1) (hi := (L : Int)) (by omega))
    go_enter Tryz.func93, Tryz.ntmps93
    go_wp2_with fail
    refine (l1In_any _ _ _ _).mono ?_
    rw [I0.out]
    rintro e w1 ⟨rfl, rfl⟩
    go_wp2_with fail
    refine (N0.out _).mono ?_
    rintro e w1 ⟨x, n, rfl, hx, rfl⟩
    obtain ⟨rfl, rfl⟩ := HX.out x n hx
    clear hx
    go_wp2_with fail
    refine (l1In_any _ _ _ _).mono ?_
    rw [HIN.out]
    rintro e w1 ⟨rfl, rfl⟩
    go_wp2_with fail
    go_ret3
    exact ⟨-1, -1, 0, rfl, .inr ⟨HN.out, .inl ⟨rfl, rfl, rfl⟩⟩, rfl⟩
  | cons c0 r0 =>
    obtain ⟨s, hs0⟩ : ∃ s, s = c0 :: r0 := ⟨_, rfl⟩
    rw [← hs0] at N0 hs ⊢
    have hl0 : 0 < s.length := by rw [hs0]; simp
    have hh : s.head? = some s[0] := by subst hs0; rfl
    have hne : s ≠ [] := by rw [hs0]; simp
    have b1 : (s == []) = false := by simpa using hne
    have b2 : s.isEmpty = false := by simpa using hne
    have l0 : (0 : Int) < (s.length : Int) := by omega
    clear hs0 hne
    by_cases hp : s[0] = 37
    · have HR := Lib.hid (rng_all L (show s.head? = some 37 by rw [hh, hp]))
      have c1 : (((s[0]).toNat : Int) == 37) = true := by rw [hp]; rfl
      clear hp hh N0
      go_enter Tryz.func93, Tryz.ntmps93
      go_wp2_with fail
      refine (l1In_any _ _ _ _).mono ?_
      rw [I0.out]
      rintro e w1 ⟨rfl, rfl⟩
      go_wp2_with fail
      go_ret3
      exact ⟨0, (L : Int) - 1, 1, rfl, .inl ⟨0, L - 1, 1, HR.out, rfl, by omega, rfl⟩, rfl⟩
    · have hpc : s.head? ≠ some 37 := by rw [hh]; simpa using hp
      have HP := Lib.hid hpc
      have c1 : (((s[0]).toNat : Int) == 37) = false := by
        rw [beq_eq_false_iff_ne]
        intro e
        exact hp (UInt8.toNat_inj.1 (show (s[0]).toNat = (37 : UInt8).toNat by show _ = 37; omega))
      clear hp hh hpc
      go_enter Tryz.func93, Tryz.ntmps93
      go_wp2_with fail
      refine (l1In_any _ _ _ _).mono ?_
      rw [I0.out]
      rintro e w1 ⟨rfl, rfl⟩
      go_wp2_with fail
      refine (N0.out _).mono ?_
      rintro e w1 ⟨x, n, rfl, hx, rfl⟩
      clear N0
      rcases hx with ⟨a, k, hn, rfl, rfl⟩ | ⟨hn, hx⟩
      · rw [List.drop_zero] at hn
        obtain ⟨a1, -, -, k1, k2⟩ := num_some hn
        have hz : 0 + k = k := Nat.zero_add k
        rw [hz]
        clear hz
        by_cases ha0 : a = 0
        · subst ha0
          have HN := Lib.hid (rng_zero L HP.out hn)
          have HIN := Lib.hid (inBn (a := ((0 : Nat) : Int)) (lo := 1) (hi := (L : Int)) (by omega))
          clear hn
          go_wp2_with fail
          refine (l1In_any _ _ _ _).mono ?_
          rw [show inB 0 1 (L : Int) = false from HIN.out]
          rintro e w1 ⟨rfl, rfl⟩
          go_wp2_with fail
          go_ret3
          exact ⟨-1, -1, 0, rfl, .inr ⟨HN.out, .inl ⟨rfl, rfl, rfl⟩⟩, rfl⟩
        · have p0 : (0 : Int) < (a : Int) := by omega
          have HNum := Lib.hid hn
          clear hn
          by_cases hkl : k < s.length
          · have i0 : (0 : Int) ≤ (k : Int) := by omega
            have i1 : (k : Int) < (s.length : Int) := by omega
            have hdh : (s.drop k).head? = some s[k] := by rw [List.head?_drop, List.getElem?_eq_getElem hkl]
            by_cases hcm : s[k] = 44
            · have HC := Lib.hid (show (s.drop k).head? = some 44 by rw [hdh, hcm])
              have c2 : (((s[k]).toNat : Int) == 44) = true := by rw [hcm]; rfl
              have N1 := Lib.hid (fun w => l20Number_any s (k + 1) w hs (by omega))
              unfold NsPost at N1
              clear hdh hcm
              go_wp2_with fail
              refine (N1.out _).mono ?_
              rintro e w1 ⟨x2, n2, rfl, hx2, rfl⟩
              clear N1
              rcases hx2 with ⟨u, v, hn2, rfl, rfl⟩ | ⟨hn2, hx2⟩
              · have hR := rng_two L HP.out HNum.out HC.out hn2
                have hu9 := (num_some hn2).1
                clear hn2 HC HNum
                by_cases hin : 1 ≤ a ∧ a ≤ L ∧ a ≤ u ∧ u ≤ L
                · rw [if_pos hin] at hR
                  have HN := Lib.hid hR
                  have HIN := Lib.hid (inB_iff.2 (show (1 : Int) ≤ (a : Int) ∧ (a : Int) ≤ (L : Int) by omega))
                  have HIN2 := Lib.hid (inB_iff.2 (show (a : Int) ≤ (u : Int) ∧ (u : Int) ≤ (L : Int) by omega))
                  have HA := Lib.hid (show (a : Int) - 1 = ((a - 1 : Nat) : Int) ∧ (u : Int) - 1 = ((u - 1 : Nat) : Int) by omega)
                  clear hR hin
                  go_wp2_with fail
                  refine (l1In_any _ _ _ _).mono ?_
                  rw [HIN.out]
                  rintro e w1 ⟨rfl, rfl⟩
                  go_wp2_with fail
                  refine (l1In_any _ _ _ _).mono ?_
                  rw [HIN2.out]
                  rintro e w1 ⟨rfl, rfl⟩
                  go_wp2_with fail
                  go_ret3
                  exact ⟨_, _, _, rfl, .inl ⟨a - 1, u - 1, k + 1 + v, HN.out, HA.out.1, HA.out.2, rfl⟩, rfl⟩
                · rw [if_neg hin] at hR
                  have HN := Lib.hid hR
                  by_cases hina : 1 ≤ a ∧ a ≤ L
                  · have HIN := Lib.hid (inB_iff.2 (show (1 : Int) ≤ (a : Int) ∧ (a : Int) ≤ (L : Int) by omega))
                    have HIN2 := Lib.hid (inBn (a := (u : Int)) (lo := (a : Int)) (hi := (L : Int)) (by omega))
                    clear hR hin hina
                    go_wp2_with fail
                    refine (l1In_any _ _ _ _).mono ?_
                    rw [HIN.out]
                    rintro e w1 ⟨rfl, rfl⟩
                    go_wp2_with fail
                    refine (l1In_any _ _ _ _).mono ?_
                    rw [HIN2.out]
                    rintro e w1 ⟨rfl, rfl⟩
                    go_wp2_with fail
                    go_ret3
                    exact ⟨-1, -1, 0, rfl, .inr ⟨HN.out, .inl ⟨rfl, rfl, rfl⟩⟩, rfl⟩
                  · have HIN := Lib.hid (inBn (a := (a : Int)) (lo := 1) (hi := (L : Int)) (by omega))
                    clear hR hin hina
                    go_wp2_with fail
                    refine (l1In_any _ _ _ _).mono ?_
                    rw [HIN.out]
                    rintro e w1 ⟨rfl, rfl⟩
                    go_wp2_with fail
                    go_ret3
                    exact ⟨-1, -1, 0, rfl, .inr ⟨HN.out, .inl ⟨rfl, rfl, rfl⟩⟩, rfl⟩
              · have HN := Lib.hid (rng_half L HP.out HNum.out HC.out hn2)
                rcases hx2 with ⟨rfl, rfl⟩ | ⟨hx0, hx1, j, rfl, hj0, hj⟩
                · clear hn2 HC HNum
                  by_cases hina : 1 ≤ a ∧ a ≤ L
                  · have HIN := Lib.hid (inB_iff.2 (show (1 : Int) ≤ (a : Int) ∧ (a : Int) ≤ (L : Int) by omega))
                    have HIN2 := Lib.hid (inBn (a := -1) (lo := (a : Int)) (hi := (L : Int)) (by omega))
                    clear hina
                    go_wp2_with fail
                    refine (l1In_any _ _ _ _).mono ?_
                    rw [HIN.out]
                    rintro e w1 ⟨rfl, rfl⟩
                    go_wp2_with fail
                    refine (l1In_any _ _ _ _).mono ?_
                    rw [HIN2.out]
                    rintro e w1 ⟨rfl, rfl⟩
                    go_wp2_with fail
                    go_ret3
                    exact ⟨-1, -1, 0, rfl, .inr ⟨HN.out, .inl ⟨rfl, rfl, rfl⟩⟩, rfl⟩
                  · have HIN := Lib.hid (inBn (a := (a : Int)) (lo := 1) (hi := (L : Int)) (by omega))
                    clear hina
                    go_wp2_with fail
                    refine (l1In_any _ _ _ _).mono ?_
                    rw [HIN.out]
                    rintro e w1 ⟨rfl, rfl⟩
                    go_wp2_with fail
                    go_ret3
                    exact ⟨-1, -1, 0, rfl, .inr ⟨HN.out, .inl ⟨rfl, rfl, rfl⟩⟩, rfl⟩
                · obtain ⟨u, rfl⟩ : ∃ u : Nat, x2 = u := ⟨x2.toNat, by omega⟩
                  have HJ := Lib.hid hj
                  clear hn2 HC HNum hj
                  by_cases hin : 1 ≤ a ∧ a ≤ L ∧ a ≤ u ∧ u ≤ L
                  · have HIN := Lib.hid (inB_iff.2 (show (1 : Int) ≤ (a : Int) ∧ (a : Int) ≤ (L : Int) by omega))
                    have HIN2 := Lib.hid (inB_iff.2 (show (a : Int) ≤ (u : Int) ∧ (u : Int) ≤ (L : Int) by omega))
                    have HA := Lib.hid (show (a : Int) - 1 = ((a - 1 : Nat) : Int) ∧ (u : Int) - 1 = ((u - 1 : Nat) : Int) ∧ a - 1 ≤ u - 1 ∧ u - 1 < L by omega)
                    clear hin
                    go_wp2_with fail
                    refine (l1In_any _ _ _ _).mono ?_
                    rw [HIN.out]
                    rintro e w1 ⟨rfl, rfl⟩
                    go_wp2_with fail
                    refine (l1In_any _ _ _ _).mono ?_
                    rw [HIN2.out]
                    rintro e w1 ⟨rfl, rfl⟩
                    go_wp2_with fail
                    go_ret3
                    exact ⟨_, _, _, rfl, .inr ⟨HN.out, .inr ⟨a - 1, u - 1, j, HA.out.1, HA.out.2.1, rfl, HA.out.2.2.1, HA.out.2.2.2, HJ.out⟩⟩, rfl⟩
                  · by_cases hina : 1 ≤ a ∧ a ≤ L
                    · have HIN := Lib.hid (inB_iff.2 (show (1 : Int) ≤ (a : Int) ∧ (a : Int) ≤ (L : Int) by omega))
                      have HIN2 := Lib.hid (inBn (a := (u : Int)) (lo := (a : Int)) (hi := (L : Int)) (by omega))
                      clear hin hina
                      go_wp2_with fail
                      refine (l1In_any _ _ _ _).mono ?_
                      rw [HIN.out]
                      rintro e w1 ⟨rfl, rfl⟩
                      go_wp2_with fail
                      refine (l1In_any _ _ _ _).mono ?_
                      rw [HIN2.out]
                      rintro e w1 ⟨rfl, rfl⟩
                      go_wp2_with fail
                      go_ret3
                      exact ⟨-1, -1, 0, rfl, .inr ⟨HN.out, .inl ⟨rfl, rfl, rfl⟩⟩, rfl⟩
                    · have HIN := Lib.hid (inBn (a := (a : Int)) (lo := 1) (hi := (L : Int)) (by omega))
                      clear hin hina
                      go_wp2_with fail
                      refine (l1In_any _ _ _ _).mono ?_
                      rw [HIN.out]
                      rintro e w1 ⟨rfl, rfl⟩
                      go_wp2_with fail
                      go_ret3
                      exact ⟨-1, -1, 0, rfl, .inr ⟨HN.out, .inl ⟨rfl, rfl, rfl⟩⟩, rfl⟩
            · have hR := rng_one L HP.out HNum.out (by rw [hdh]; simpa using hcm)
              have c2 : (((s[k]).toNat : Int) == 44) = false := by
                rw [beq_eq_false_iff_ne]
                intro e
                exact hcm (UInt8.toNat_inj.1 (show (s[k]).toNat = (44 : UInt8).toNat by show _ = 44; omega))
              clear hdh hcm HNum
              by_cases hin : 1 ≤ a ∧ a ≤ L
              · rw [if_pos hin] at hR
                have HN := Lib.hid hR
                have HIN := Lib.hid (inB_iff.2 (show (1 : Int) ≤ (a : Int) ∧ (a : Int) ≤ (L : Int) by omega))
                have HIN2 := Lib.hid (inB_iff.2 (show (a : Int) ≤ (a : Int) ∧ (a : Int) ≤ (L : Int) by omega))
                have HA := Lib.hid (show (a : Int) - 1 = ((a - 1 : Nat) : Int) by omega)
                clear hR hin
                go_wp2_with fail
                refine (l1In_any _ _ _ _).mono ?_
                rw [HIN.out]
                rintro e w1 ⟨rfl, rfl⟩
                go_wp2_with fail
                refine (l1In_any _ _ _ _).mono ?_
                rw [HIN2.out]
                rintro e w1 ⟨rfl, rfl⟩
                go_wp2_with fail
                go_ret3
                exact ⟨_, _, _, rfl, .inl ⟨a - 1, a - 1, k, HN.out, HA.out, HA.out, rfl⟩, rfl⟩
              · rw [if_neg hin] at hR
                have HN := Lib.hid hR
                have HIN := Lib.hid (inBn (a := (a : Int)) (lo := 1) (hi := (L : Int)) (by omega))
                clear hR hin
                go_wp2_with fail
                refine (l1In_any _ _ _ _).mono ?_
                rw [HIN.out]
                rintro e w1 ⟨rfl, rfl⟩
                go_wp2_with fail
                go_ret3
                exact ⟨-1, -1, 0, rfl, .inr ⟨HN.out, .inl ⟨rfl, rfl, rfl⟩⟩, rfl⟩
          · have hR := rng_one L HP.out HNum.out (by rw [List.drop_of_length_le (by omega)]; simp)
            have i1 : ¬ (k : Int) < (s.length : Int) := by omega
            clear HNum
            by_cases hin : 1 ≤ a ∧ a ≤ L
            · rw [if_pos hin] at hR
              have HN := Lib.hid hR
              have HIN := Lib.hid (inB_iff.2 (show (1 : Int) ≤ (a : Int) ∧ (a : Int) ≤ (L : Int) by omega))
              have HIN2 := Lib.hid (inB_iff.2 (show (a : Int) ≤ (a : Int) ∧ (a : Int) ≤ (L : Int) by omega))
              have HA := Lib.hid (show (a : Int) - 1 = ((a - 1 : Nat) : Int) by omega)
              clear hR hin
              go_wp2_with fail
              refine (l1In_any _ _ _ _).mono ?_
              rw [HIN.out]
              rintro e w1 ⟨rfl, rfl⟩
              go_wp2_with fail
              refine (l1In_any _ _ _ _).mono ?_
              rw [HIN2.out]
              rintro e w1 ⟨rfl, rfl⟩
              go_wp2_with fail
              go_ret3
              exact ⟨_, _, _, rfl, .inl ⟨a - 1, a - 1, k, HN.out, HA.out, HA.out, rfl⟩, rfl⟩
            · rw [if_neg hin] at hR
              have HN := Lib.hid hR
              have HIN := Lib.hid (inBn (a := (a : Int)) (lo := 1) (hi := (L : Int)) (by omega))
              clear hR hin
              go_wp2_with fail
              refine (l1In_any _ _ _ _).mono ?_
              rw [HIN.out]
              rintro e w1 ⟨rfl, rfl⟩
              go_wp2_with fail
              go_ret3
              exact ⟨-1, -1, 0, rfl, .inr ⟨HN.out, .inl ⟨rfl, rfl, rfl⟩⟩, rfl⟩
      · rw [List.drop_zero] at hn
        have HN := Lib.hid (rng_no L HP.out hn)
        rcases hx with ⟨rfl, rfl⟩ | ⟨hx0, hx1, j, rfl, hj0, hj⟩
        · have HIN := Lib.hid (inBn (a := -1) (lo := 1) (hi := (L : Int)) (by omega))
          clear hn HP
          go_wp2_with fail
          refine (l1In_any _ _ _ _).mono ?_
          rw [HIN.out]
          rintro e w1 ⟨rfl, rfl⟩
          go_wp2_with fail
          go_ret3
          exact ⟨-1, -1, 0, rfl, .inr ⟨HN.out, .inl ⟨rfl, rfl, rfl⟩⟩, rfl⟩
        · obtain ⟨a, rfl⟩ : ∃ u : Nat, x = u := ⟨x.toNat, by omega⟩
          obtain ⟨hjl, hcm⟩ := comma_no hj
          have HJ := Lib.hid hj
          have i0 : (0 : Int) ≤ (j : Int) := by omega
          have i1 : (j : Int) < (s.length : Int) := by omega
          have c2 : (((s[j]).toNat : Int) == 44) = false := by
            rw [beq_eq_false_iff_ne]
            intro e
            exact hcm (UInt8.toNat_inj.1 (show (s[j]).toNat = (44 : UInt8).toNat by show _ = 44; omega))
          clear hn HP hcm hj
          by_cases ha0 : 0 < a
          · have p0 : (0 : Int) < (a : Int) := by omega
            by_cases hin : 1 ≤ a ∧ a ≤ L ∧ a ≤ L
            · have HIN := Lib.hid (inB_iff.2 (show (1 : Int) ≤ (a : Int) ∧ (a : Int) ≤ (L : Int) by omega))
              have HIN2 := Lib.hid (inB_iff.2 (show (a : Int) ≤ (a : Int) ∧ (a : Int) ≤ (L : Int) by omega))
              have HA := Lib.hid (show (a : Int) - 1 = ((a - 1 : Nat) : Int) ∧ (a : Int) - 1 = ((a - 1 : Nat) : Int) ∧ a - 1 ≤ a - 1 ∧ a - 1 < L by omega)
              clear hin
              go_wp2_with fail
              refine (l1In_any _ _ _ _).mono ?_
              rw [HIN.out]
              rintro e w1 ⟨rfl, rfl⟩
              go_wp2_with fail
              refine (l1In_any _ _ _ _).mono ?_
              rw [HIN2.out]
              rintro e w1 ⟨rfl, rfl⟩
              go_wp2_with fail
              go_ret3
              exact ⟨_, _, _, rfl, .inr ⟨HN.out, .inr ⟨a - 1, a - 1, j, HA.out.1, HA.out.2.1, rfl, HA.out.2.2.1, HA.out.2.2.2, HJ.out⟩⟩, rfl⟩
            · by_cases hina : 1 ≤ a ∧ a ≤ L
              · have HIN := Lib.hid (inB_iff.2 (show (1 : Int) ≤ (a : Int) ∧ (a : Int) ≤ (L : Int) by omega))
                have HIN2 := Lib.hid (inBn (a := (a : Int)) (lo := (a : Int)) (hi := (L : Int)) (by omega))
                clear hin hina
                go_wp2_with fail
                refine (l1In_any _ _ _ _).mono ?_
                rw [HIN.out]
                rintro e w1 ⟨rfl, rfl⟩
                go_wp2_with fail
                refine (l1In_any _ _ _ _).mono ?_
                rw [HIN2.out]
                rintro e w1 ⟨rfl, rfl⟩
                go_wp2_with fail
                go_ret3
                exact ⟨-1, -1, 0, rfl, .inr ⟨HN.out, .inl ⟨rfl, rfl, rfl⟩⟩, rfl⟩
              · have HIN := Lib.hid (inBn (a := (a : Int)) (lo := 1) (hi := (L : Int)) (by omega))
                clear hin hina
                go_wp2_with fail
                refine (l1In_any _ _ _ _).mono ?_
                rw [HIN.out]
                rintro e w1 ⟨rfl, rfl⟩
                go_wp2_with fail
                go_ret3
                exact ⟨-1, -1, 0, rfl, .inr ⟨HN.out, .inl ⟨rfl, rfl, rfl⟩⟩, rfl⟩
          · obtain rfl : a = 0 := by omega
            have HIN := Lib.hid (inBn (a := ((0 : Nat) : Int)) (lo := 1) (hi := (L : Int)) (by omega))
            go_wp2_with fail
            refine (l1In_any _ _ _ _).mono ?_
            rw [show inB 0 1 (L : Int) = false from HIN.out]
            rintro e w1 ⟨rfl, rfl⟩
            go_wp2_with fail
            go_ret3
            exact ⟨-1, -1, 0, rfl, .inr ⟨HN.out, .inl ⟨rfl, rfl, rfl⟩⟩, rfl⟩

end Go.Proofs.YtbjlkdenkmbepaaGreatDoor
