/- What is proved here: the contract of the reference's ReadRecord: it gives the change that a text is the record of. No condition. -/
import Derived.Test.YtbjlkdenkmbepaaGreatDoorRc8
import Derived.Test.YtbjlkdenkmbepaaGreatDoorRc9
namespace Go.Proofs.YtbjlkdenkmbepaaGreatDoor
open Go.RowKit
set_option linter.unusedVariables false

theorem lsp_go {s : List UInt8} {j : Nat} (hj : j < s.length) (h : s[j] ≠ 32) : lsp (s.take (j + 1)) = lsp (s.take j) := by
  rw [List.take_succ_eq_append_getElem hj, lsp_other _ h]
theorem lsp_here {s : List UInt8} {j : Nat} (hj : j < s.length) (h : s[j] = 32) : lsp (s.take (j + 1)) = j + 1 := by
  rw [List.take_succ_eq_append_getElem hj, h, lsp_space, List.length_take]
  omega

set_option maxRecDepth 100000 in
set_option maxHeartbeats 1000000 in
theorem specReadRecord_any (s : List UInt8) (w : World) (hs : s.length ≤ 1048577) :
    Calls Tryz.prog 123 #[S s] w fun e w' => e = .returned (.tuple #[chAgg (rdC s), .bool (rdB s)]) ∧ Below w.heap.size w w' := by
  obtain ⟨za, zc, zp, zb, hz1, hz2⟩ : ∃ za zc zp zb, rdC s = ⟨za, zc, zp⟩ ∧ rdB s = zb := ⟨(rdC s).a, (rdC s).c, (rdC s).p, _, rfl, rfl⟩
  have NO := Lib.hid (fun (h : rdM s = none) => (show (za = 0 ∧ zc = 0 ∧ zp = []) ∧ zb = false by
    have h1 := rd_no h
    rw [hz1, hz2] at h1
    have h2 := h1.1
    unfold c0 at h2
    injection h2 with h3 h4 h5
    exact ⟨⟨h3, h4, h5⟩, h1.2⟩))
  have YES := Lib.hid (fun (a b : Int) (p : List UInt8) (h : rdM s = some ⟨a, b, p⟩) => (show (za = a ∧ zc = b ∧ zp = p) ∧ zb = true by
    have h1 := rd_yes h
    rw [hz1, hz2] at h1
    have h2 := h1.1
    injection h2 with h3 h4 h5
    exact ⟨⟨h3, h4, h5⟩, h1.2⟩))
  rw [hz1, hz2]
  clear hz1 hz2
  unfold chAgg
  simp only
  have V0 := Lib.hid (fun w => (show Calls Tryz.prog 151 #[S s, .int .i64 0] w fun e w' => e = .returned (.tuple #[.int .i64 (vAt s 0).1, .int .i64 ((vAt s 0).2 : Nat)]) ∧ w = w' from l22Value_any s 0 w (Nat.zero_le _) hs))
  have la := vAt_val s 0
  have lk := vAt_le (s := s) (k := 0) (Nat.zero_le _)
  obtain ⟨a, k1, hv⟩ : ∃ a k1, vAt s 0 = (a, k1) := ⟨_, _, rfl⟩
  have V1 := Lib.hid (fun w => l22Value_any s k1 w (by rw [hv] at lk; exact lk.2) hs)
  have lb := vAt_val s k1
  have lm := vAt_le (s := s) (k := k1) (by rw [hv] at lk; exact lk.2)
  obtain ⟨b, k2, hu⟩ : ∃ b k2, vAt s k1 = (b, k2) := ⟨_, _, rfl⟩
  have N1 := Lib.hid (rec_no1 (s := s))
  have N2 := Lib.hid (rec_mid (s := s))
  rw [hv] at la lk V0 N1 N2
  simp only at la lk V0 N1 N2
  rw [hu] at lb lm V1 N1 N2
  simp only at lb lm V1 N1 N2
  have Y2 := Lib.hid (fun (p : List UInt8) => rec_yes (s := s) (a := a) (b := b) (p := p))
  clear hv hu
  obtain ⟨la1, la2⟩ := la
  obtain ⟨lb1, lb2⟩ := lb
  obtain ⟨lk1, lk2⟩ := lk
  obtain ⟨lm1, lm2⟩ := lm
  go_enter Tryz.func123, Tryz.ntmps123
  go_wp2_with fail
  refine (V0.out _).mono ?_
  rintro e w1 ⟨rfl, rfl⟩
  go_wp2_with fail
  refine (V1.out _).mono ?_
  rintro e w1 ⟨rfl, rfl⟩
  clear V0 V1
  go_wp2_with fail
  go_loop [8] (fun t => ∃ k : Nat, k ≤ s.length ∧ t = .int .i64 k ∧ Hid (lsp s = lsp (s.take k))) (fun t => (intOf t).toNat)
  case atStart => exact ⟨s.length, Nat.le_refl _, rfl, Lib.hid (by rw [List.take_length])⟩
  case round =>
    obtain ⟨k, hk, rfl, HL⟩ := hrel
    rcases k with _ | j
    · have HN := Lib.hid (NO.out (N1.out (.inr (.inr (by rw [HL.out]; simp [lsp]; omega)))))
      have i0 : ((0 : Nat) : Int) - 1 < (k2 : Int) := by omega
      have i1 : (-1 : Int) < (k2 : Int) := by omega
      clear NO YES N1 N2 Y2 HL
      go_wp2_with fail
      all_goals
        refine bodyPost_ret (v := .tuple #[.agg #[.int .i64 0, .int .i64 0, S []], .bool false]) (by simp [results, Tryz.results123, go_sem]) rfl ⟨?_, by (repeat (first | exact Below.refl _ _ | assumption | refine Below.drew ?_ | refine up_drewN ?_ _ | refine up_alloc ?_ _ | refine up_set ?_ _ _ (by first | exact Nat.le_refl _ | (simp; done) | (simp; omega) | omega) | refine up_trans ?_ (by assumption)))⟩
        obtain ⟨⟨q1, q2, q3⟩, q4⟩ := HN.out
        rw [q1, q2, q3, q4]
    · have hj : j < s.length := by omega
      have i1 : (0 : Int) < ((j + 1 : Nat) : Int) := by omega
      have i2 : ((j + 1 : Nat) : Int) - 1 = (j : Int) := by omega
      have i2b : (j : Int) + 1 - 1 = (j : Int) := by omega
      have i3 : (0 : Int) ≤ (j : Int) := by omega
      have i4 : (j : Int) < (s.length : Int) := by omega
      by_cases h32 : s[j] = 32
      · have hL : lsp s = j + 1 := by rw [HL.out, lsp_here hj h32]
        have n1 : (((s[j]).toNat : Int) != 32) = false := by rw [h32]; rfl
        have hi : ((lsp s : Nat) : Int) - 1 = (j : Int) := by rw [hL]; omega
        have hn : lsp s - 1 = j := by rw [hL]; omega
        rw [hi] at N1
        rw [hn] at N2
        clear HL hL hi hn h32
        by_cases hbad : a < 0 ∨ b < 0 ∨ (j : Int) < (k2 : Int)
        · have HN := Lib.hid (NO.out (N1.out hbad))
          clear NO YES N1 N2 Y2
          rcases (show a < 0 ∨ (0 ≤ a ∧ b < 0) ∨ (0 ≤ a ∧ 0 ≤ b ∧ (j : Int) < (k2 : Int)) by omega) with h | ⟨h, h'⟩ | ⟨h, h', h''⟩
          all_goals
            clear hbad
            go_wp2_with fail
            refine bodyPost_ret (v := .tuple #[.agg #[.int .i64 0, .int .i64 0, S []], .bool false]) (by simp [results, Tryz.results123, go_sem]) rfl ⟨?_, by (repeat (first | exact Below.refl _ _ | assumption | refine Below.drew ?_ | refine up_drewN ?_ _ | refine up_alloc ?_ _ | refine up_set ?_ _ _ (by first | exact Nat.le_refl _ | (simp; done) | (simp; omega) | omega) | refine up_trans ?_ (by assumption)))⟩
            obtain ⟨⟨q1, q2, q3⟩, q4⟩ := HN.out
            rw [q1, q2, q3, q4]
        · have ha : ¬ a < 0 := by omega
          have hb : ¬ b < 0 := by omega
          have hk2 : ¬ (j : Int) < (k2 : Int) := by omega
          have hkj : k2 ≤ j := by omega
          have hlen := uneA_len s j k2
          generalize hT : uneA s j k2 = T at *
          have HT := Lib.hid hT
          clear hT hbad N1
          go_wp2_with fail
          go_loop [9, 10] (fun o i => ∃ (k : Nat) (q : List UInt8), k ≤ j ∧ i = .int .i64 k ∧ o = S q ∧ q.length ≤ k ∧ Hid (T = q ++ uneA s j k)) (fun _ i => j - (intOf i).toNat)
          case atStart => exact ⟨k2, [], hkj, rfl, rfl, Nat.zero_le _, Lib.hid HT.out.symm⟩
          case round =>
            obtain ⟨k, q, hk, rfl, rfl, hq, HQ⟩ := hrel
            by_cases hlt : k < j
            · have hks : k < s.length := by omega
              have g1 : (k : Int) < (j : Int) := by omega
              have g2 : (k : Int) < (s.length : Int) := by omega
              have g3 : (0 : Int) ≤ (k : Int) := by omega
              by_cases h92 : s[k] = 92
              · have n2 : (((s[k]).toNat : Int) == 92) = true := by rw [h92]; rfl
                by_cases hlt2 : k + 1 < j
                · have g4 : (k : Int) + 1 < (j : Int) := by omega
                  have hks1 : k + 1 < s.length := by omega
                  have HS := Lib.hid (uneA_two s hlt2 (by omega) h92)
                  by_cases h110 : s[k + 1] = 110
                  · have n3 : (((s[k + 1]).toNat : Int) == 110) = true := by rw [h110]; rfl
                    have HS2 := Lib.hid (show T = (q ++ [10]) ++ uneA s j (k + 2) by rw [HQ.out, HS.out, if_pos h110]; simp)
                    clear h92 h110 HS HQ
                    go_wp2_with fail
                    go_round
                    case rel => exact ⟨k + 2, q ++ [10], by omega, by go_num, rfl, by simp; omega, HS2⟩
                    case measure => simp [intOf]; omega
                  · have n3 : (((s[k + 1]).toNat : Int) == 110) = false := by rw [beq_eq_false_iff_ne]; intro e2; exact h110 (UInt8.toNat_inj.1 (by show (s[k + 1]).toNat = 110; omega))
                    have HS2 := Lib.hid (show T = (q ++ [s[k + 1]]) ++ uneA s j (k + 2) by rw [HQ.out, HS.out, if_neg h110]; simp)
                    clear h92 h110 HS HQ
                    go_wp2_with fail
                    go_round
                    case rel => exact ⟨k + 2, q ++ [s[k + 1]], by omega, by go_num, by rw [← one_slice s (k + 1) hks1], by simp; omega, HS2⟩
                    case measure => simp [intOf]; omega
                · have g4 : ¬ (k : Int) + 1 < (j : Int) := by omega
                  have HS2 := Lib.hid (show T = (q ++ [s[k]]) ++ uneA s j (k + 1) by rw [HQ.out, uneA_one s hlt (by omega) (fun h => hlt2 h.2)]; simp)
                  clear h92 HQ
                  go_wp2_with fail
                  go_round
                  case rel => exact ⟨k + 1, q ++ [s[k]], by omega, by go_num, by rw [← one_slice s k hks], by simp; omega, HS2⟩
                  case measure => simp [intOf]; omega
              · have n2 : (((s[k]).toNat : Int) == 92) = false := by rw [beq_eq_false_iff_ne]; intro e2; exact h92 (UInt8.toNat_inj.1 (by show (s[k]).toNat = 92; omega))
                have HS2 := Lib.hid (show T = (q ++ [s[k]]) ++ uneA s j (k + 1) by rw [HQ.out, uneA_one s hlt (by omega) (fun h => h92 h.1)]; simp)
                clear h92 HQ
                go_wp2_with fail
                go_round
                case rel => exact ⟨k + 1, q ++ [s[k]], by omega, by go_num, by rw [← one_slice s k hks], by simp; omega, HS2⟩
                case measure => simp [intOf]; omega
            · obtain rfl : k = j := by omega
              have hTq : T = q := by rw [HQ.out, uneA_end s (Nat.le_refl _), List.append_nil]
              subst hTq
              have g1 : ¬ (k : Int) < (k : Int) := by omega
              have R1 := Lib.hid (fun w => specRecordText_any ⟨a, b, T⟩ w (show T.length ≤ 1048576 by omega))
              unfold chAgg at R1
              simp only at R1
              clear HT HQ
              go_wp2_with fail
              refine (R1.out _).mono ?_
              rintro e w1 ⟨rfl, hb1⟩
              have xc : ∀ o, w1.cell? ⟨w.heap.size, o, none⟩ = #[.int .i64 0, .int .i64 0, S []][o]? := (fun o => (hb1.cell (p := ⟨w.heap.size, o, none⟩) (by simp <;> omega)).trans (by simp [go_sem])); have xf : ∀ o, w1.frozen? ⟨w.heap.size, o, none⟩ = false := (fun o => (hb1.frozen (p := ⟨w.heap.size, o, none⟩) (by simp <;> omega)).trans (by simp [go_sem])); have xz : w.heap.size < w1.heap.size := (by have := hb1.size; (try simp at this); omega); have xy := xz
              have yc : ∀ o, w1.cell? ⟨w.heap.size + 1, o, none⟩ = #[.int .i64 a, .int .i64 b, S T][o]? := (fun o => (hb1.cell (p := ⟨w.heap.size + 1, o, none⟩) (by simp <;> omega)).trans (by simp [go_sem])); have yf : ∀ o, w1.frozen? ⟨w.heap.size + 1, o, none⟩ = false := (fun o => (hb1.frozen (p := ⟨w.heap.size + 1, o, none⟩) (by simp <;> omega)).trans (by simp [go_sem])); have yz : w.heap.size + 1 < w1.heap.size := (by have := hb1.size; (try simp at this); omega); have yy := yz
              have hW : Below w.heap.size w w1 := by (repeat (first | exact Below.refl _ _ | assumption | refine Below.drew ?_ | refine up_drewN ?_ _ | refine up_alloc ?_ _ | refine up_set ?_ _ _ (by first | exact Nat.le_refl _ | (simp; done) | (simp; omega) | omega) | refine up_trans ?_ (by assumption)))
              clear hb1 R1
              by_cases hr : recT a b T = s
              · have hd := hr
                by_cases hs0 : s = []
                · subst hs0
                  simp at hj
                · have HN := Lib.hid (YES.out _ _ _ (Y2.out T hr hs0))
                  have hd2 : (s == []) = false := by rw [beq_eq_false_iff_ne]; exact hs0
                  have hd3 : s.isEmpty = false := by simpa using hs0
                  clear hs0 NO YES N2 Y2 hr
                  generalize recT a b T = r at *
                  go_wp2_with fail
                  refine bodyPost_ret (v := .tuple #[.agg #[.int .i64 a, .int .i64 b, S T], .bool true]) (by simp [results, Tryz.results123, go_sem, xc]) rfl ⟨?_, by (repeat (first | exact Below.refl _ _ | assumption | refine Below.drew ?_ | refine up_drewN ?_ _ | refine up_alloc ?_ _ | refine up_set ?_ _ _ (by first | exact Nat.le_refl _ | (simp; done) | (simp; omega) | omega) | refine up_trans ?_ (by assumption)))⟩
                  obtain ⟨⟨q1, q2, q3⟩, q4⟩ := HN.out
                  rw [q1, q2, q3, q4]
              · have hd := hr
                have HN := Lib.hid (NO.out (N2.out (.inl hr)))
                clear hr NO YES N2 Y2
                generalize recT a b T = r at *
                go_wp2_with fail
                refine bodyPost_ret (v := .tuple #[.agg #[.int .i64 0, .int .i64 0, S []], .bool false]) (by simp [results, Tryz.results123, go_sem, xc]) rfl ⟨?_, by (repeat (first | exact Below.refl _ _ | assumption | refine Below.drew ?_ | refine up_drewN ?_ _ | refine up_alloc ?_ _ | refine up_set ?_ _ _ (by first | exact Nat.le_refl _ | (simp; done) | (simp; omega) | omega) | refine up_trans ?_ (by assumption)))⟩
                obtain ⟨⟨q1, q2, q3⟩, q4⟩ := HN.out
                rw [q1, q2, q3, q4]
      · have n1 : (((s[j]).toNat : Int) != 32) = true := by rw [bne_iff_ne]; intro e2; exact h32 (UInt8.toNat_inj.1 (by show (s[j]).toNat = 32; omega))
        have HL2 := Lib.hid (show lsp s = lsp (s.take j) by rw [HL.out, lsp_go hj h32])
        clear HL h32
        go_wp2_with fail
        go_round
        case rel => exact ⟨j, by omega, by go_num, HL2⟩
        case measure => simp [intOf]

end Go.Proofs.YtbjlkdenkmbepaaGreatDoor
