/- What is proved here: What is proved here: the contract of the reference's ReadRecord: it gives the change that a text is the record of. What is proved here: What is proved here: plain facts: the words of a record, and the numbers that they spell. What is proved here: contracts of strings.SplitN at one space and of strconv.Atoi, in plain words. Condition: what the library's variables hold. What is proved here: What is proved here: contracts of strings.Builder's copyCheck and WriteString. What is proved here: the contract of strings.Builder's WriteByte. No condition. -/
import Derived.Test.YtbjlkdenkmbepaaGreatDoorRc8
import Derived.Lib.Split
import Derived.Lib.AtoiAll
import Derived.Test.YtbjlkdenkmbepaaGreatDoorLaidW
import Derived.Test.YtbjlkdenkmbepaaGreatDoorAc2
import Derived.Test.YtbjlkdenkmbepaaGreatDoorShelf
import Derived.Test.YtbjlkdenkmbepaaGreatDoorBase
import Derived.Shelf.Strings.Builder1
namespace Go.Proofs.YtbjlkdenkmbepaaGreatDoor
open Go.RowKit
set_option linter.unusedVariables false

theorem lsp_go {s : List UInt8} {j : Nat} (hj : j < s.length) (h : s[j] ≠ 32) : lsp (s.take (j + 1)) = lsp (s.take j) := by
  rw [List.take_succ_eq_append_getElem hj, lsp_other _ h]
theorem lsp_here {s : List UInt8} {j : Nat} (hj : j < s.length) (h : s[j] = 32) : lsp (s.take (j + 1)) = j + 1 := by
  rw [List.take_succ_eq_append_getElem hj, h, lsp_space, List.length_take]
  omega

set_option maxRecDepth 100000 in
set_option maxHeartbeats 1000000 in
theorem specReadRecord_any (s : List UInt8) (w : World) (hs : s.length ≤ 1048577) :
    Calls Tryz.prog 123 #[S s] w fun e w' => e = .returned (.tuple #[chAgg (rdC s), .bool (rdB s)]) ∧ Below w.heap.size w w' := by
  obtain ⟨za, zc, zp, zb, hz1, hz2⟩ : ∃ za zc zp zb, rdC s = ⟨za, zc, zp⟩ ∧ rdB s = zb := ⟨(rdC s).a, (rdC s).c, (rdC s).p, _, rfl, rfl⟩
  have NO := Lib.hid (fun (h : rdM s = none) => (show (za = 0 ∧ zc = 0 ∧ zp = []) ∧ zb = false by
    have h1 := rd_no h
    rw [hz1, hz2] at h1
    have h2 := h1.1
    unfold c0 at h2
    injection h2 with h3 h4 h5
    exact ⟨⟨h3, h4, h5⟩, h1.2⟩))
  have YES := Lib.hid (fun (a b : Int) (p : List UInt8) (h : rdM s = some ⟨a, b, p⟩) => (show (za = a ∧ zc = b ∧ zp = p) ∧ zb = true by
    have h1 := rd_yes h
    rw [hz1, hz2] at h1
    have h2 := h1.1
    injection h2 with h3 h4 h5
    exact ⟨⟨h3, h4, h5⟩, h1.2⟩))
  rw [hz1, hz2]
  clear hz1 hz2
  unfold chAgg
  simp only
  have V0 := Lib.hid (fun w => (show Calls Tryz.prog 151 #[S s, .int .i64 0] w fun e w' => e = .returned (.tuple #[.int .i64 (vAt s 0).1, .int .i64 ((vAt s 0).2 : Nat)]) ∧ w = w' from l22Value_any s 0 w (Nat.zero_le _) hs))
  have la := vAt_val s 0
  have lk := vAt_le (s := s) (k := 0) (Nat.zero_le _)
  obtain ⟨a, k1, hv⟩ : ∃ a k1, vAt s 0 = (a, k1) := ⟨_, _, rfl⟩
  have V1 := Lib.hid (fun w => l22Value_any s k1 w (by rw [hv] at lk; exact lk.2) hs)
  have lb := vAt_val s k1
  have lm := vAt_le (s := s) (k := k1) (by rw [hv] at lk; exact lk.2)
  obtain ⟨b, k2, hu⟩ : ∃ b k2, vAt s k1 = (b, k2) := ⟨_, _, rfl⟩
  have N1 := Lib.hid (rec_no1 (s := s))
  have N2 := Lib.hid (rec_mid (s := s))
  rw [hv] at la lk V0 N1 N2
  simp only at la lk V0 N1 N2
  rw [hu] at lb lm V1 N1 N2
  simp only at lb lm V1 N1 N2
  have Y2 := Lib.hid (fun (p : List UInt8) => rec_yes (s := s) (a := a) (b := b) (p := p))
  clear hv hu
  obtain ⟨la1, la2⟩ := la
  obtain ⟨lb1, lb2⟩ := lb
  obtain ⟨lk1, lk2⟩ := lk
  obtain ⟨lm1, lm2⟩ := lm
  go_enter Tryz.func123, Tryz.ntmps123
  go_wp2_with fail
  refine (V0.out _).mono ?_
  rintro e w1 ⟨rfl, rfl⟩
  go_wp2_with fail
  refine (V1.out _).mono ?_
  rintro e w1 ⟨rfl, rfl⟩
  clear V0 V1
  go_wp2_with fail
  go_loop [8] (fun t => ∃ k : Nat, k ≤ s.length ∧ t = .int .i64 k ∧ Hid (lsp s = lsp (s.take k))) (fun t => (intOf t).toNat)
  case atStart => exact ⟨s.length, Nat.le_refl _, rfl, Lib.hid (by rw [List.take_length])⟩
  case round =>
    obtain ⟨k, hk, rfl, HL⟩ := hrel
    rcases k with _ | j
    · have HN := Lib.hid (NO.out (N1.out (.inr (.inr (by rw [HL.out]; simp [lsp]; omega)))))
      have i0 : ((0 : Nat) : Int) - 1 < (k2 : Int) := by omega
      have i1 : (-1 : Int) < (k2 : Int) := by omega
      clear NO YES N1 N2 Y2 HL
      go_wp2_with fail
      all_goals
        refine bodyPost_ret (v := .tuple #[.agg #[.int .i64 0, .int .i64 0, S []], .bool false]) (by simp [results, Tryz.results123, go_sem]) rfl ⟨?_, by (repeat (first | exact Below.refl _ _ | assumption | refine Below.drew ?_ | refine up_drewN ?_ _ | refine up_alloc ?_ _ | refine up_set ?_ _ _ (by first | exact Nat.le_refl _ | (simp; done) | (simp; omega) | omega) | refine up_trans ?_ (by assumption)))⟩
        obtain ⟨⟨q1, q2, q3⟩, q4⟩ := HN.out
        rw [q1, q2, q3, q4]
    · have hj : j < s.length := by omega
      have i1 : (0 : Int) < ((j + 1 : Nat) : Int) := by omega
      have i2 : ((j + 1 : Nat) : Int) - 1 = (j : Int) := by omega
      have i2b : (j : Int) + 1 - 1 = (j : Int) := by omega
      have i3 : (0 : Int) ≤ (j : Int) := by omega
      have i4 : (j : Int) < (s.length : Int) := by omega
      by_cases h32 : s[j] = 32
      · have hL : lsp s = j + 1 := by rw [HL.out, lsp_here hj h32]
        have n1 : (((s[j]).toNat : Int) != 32) = false := by rw [h32]; rfl
        have hi : ((lsp s : Nat) : Int) - 1 = (j : Int) := by rw [hL]; omega
        have hn : lsp s - 1 = j := by rw [hL]; omega
        rw [hi] at N1
        rw [hn] at N2
        clear HL hL hi hn h32
        by_cases hbad : a < 0 ∨ b < 0 ∨ (j : Int) < (k2 : Int)
        · have HN := Lib.hid (NO.out (N1.out hbad))
          clear NO YES N1 N2 Y2
          rcases (show a < 0 ∨ (0 ≤ a ∧ b < 0) ∨ (0 ≤ a ∧ 0 ≤ b ∧ (j : Int) < (k2 : Int)) by omega) with h | ⟨h, h'⟩ | ⟨h, h', h''⟩
          all_goals
            clear hbad
            go_wp2_with fail
            refine bodyPost_ret (v := .tuple #[.agg #[.int .i64 0, .int .i64 0, S []], .bool false]) (by simp [results, Tryz.results123, go_sem]) rfl ⟨?_, by (repeat (first | exact Below.refl _ _ | assumption | refine Below.drew ?_ | refine up_drewN ?_ _ | refine up_alloc ?_ _ | refine up_set ?_ _ _ (by first | exact Nat.le_refl _ | (simp; done) | (simp; omega) | omega) | refine up_trans ?_ (by assumption)))⟩
            obtain ⟨⟨q1, q2, q3⟩, q4⟩ := HN.out
            rw [q1, q2, q3, q4]
        · have ha : ¬ a < 0 := by omega
          have hb : ¬ b < 0 := by omega
          have hk2 : ¬ (j : Int) < (k2 : Int) := by omega
          have hkj : k2 ≤ j := by omega
          have hlen := uneA_len s j k2
          generalize hT : uneA s j k2 = T at *
          have HT := Lib.hid hT
          clear hT hbad N1
          go_wp2_with fail
          go_loop [9, 10] (fun o i => ∃ (k : Nat) (q : List UInt8), k ≤ j ∧ i = .int .i64 k ∧ o = S q ∧ q.length ≤ k ∧ Hid (T = q ++ uneA s j k)) (fun _ i => j - (intOf i).toNat)
          case atStart => exact ⟨k2, [], hkj, rfl, rfl, Nat.zero_le _, Lib.hid HT.out.symm⟩
          case round =>
            obtain ⟨k, q, hk, rfl, rfl, hq, HQ⟩ := hrel
            by_cases hlt : k < j
            · have hks : k < s.length := by omega
              have g1 : (k : Int) < (j : Int) := by omega
              have g2 : (k : Int) < (s.length : Int) := by omega
              have g3 : (0 : Int) ≤ (k : Int) := by omega
              by_cases h92 : s[k] = 92
              · have n2 : (((s[k]).toNat : Int) == 92) = true := by rw [h92]; rfl
                by_cases hlt2 : k + 1 < j
                · have g4 : (k : Int) + 1 < (j : Int) := by omega
                  have hks1 : k + 1 < s.length := by omega
                  have HS := Lib.hid (uneA_two s hlt2 (by omega) h92)
                  by_cases h110 : s[k + 1] = 110
                  · have n3 : (((s[k + 1]).toNat : Int) == 110) = true := by rw [h110]; rfl
                    have HS2 := Lib.hid (show T = (q ++ [10]) ++ uneA s j (k + 2) by rw [HQ.out, HS.out, if_pos h110]; simp)
                    clear h92 h110 HS HQ
                    go_wp2_with fail
                    go_round
                    case rel => exact ⟨k + 2, q ++ [10], by omega, by go_num, rfl, by simp; omega, HS2⟩
                    case measure => simp [intOf]; omega
                  · have n3 : (((s[k + 1]).toNat : Int) == 110) = false := by rw [beq_eq_false_iff_ne]; intro e2; exact h110 (UInt8.toNat_inj.1 (by show (s[k + 1]).toNat = 110; omega))
                    have HS2 := Lib.hid (show T = (q ++ [s[k + 1]]) ++ uneA s j (k + 2) by rw [HQ.out, HS.out, if_neg h110]; simp)
                    clear h92 h110 HS HQ
                    go_wp2_with fail
                    go_round
                    case rel => exact ⟨k + 2, q ++ [s[k + 1]], by omega, by go_num, by rw [← one_slice s (k + 1) hks1], by simp; omega, HS2⟩
                    case measure => simp [intOf]; omega
                · have g4 : ¬ (k : Int) + 1 < (j : Int) := by omega
                  have HS2 := Lib.hid (show T = (q ++ [s[k]]) ++ uneA s j (k + 1) by rw [HQ.out, uneA_one s hlt (by omega) (fun h => hlt2 h.2)]; simp)
                  clear h92 HQ
                  go_wp2_with fail
                  go_round
                  case rel => exact ⟨k + 1, q ++ [s[k]], by omega, by go_num, by rw [← one_slice s k hks], by simp; omega, HS2⟩
                  case measure => simp [intOf]; omega
              · have n2 : (((s[k]).toNat : Int) == 92) = false := by rw [beq_eq_false_iff_ne]; intro e2; exact h92 (UInt8.toNat_inj.1 (by show (s[k]).toNat = 92; omega))
                have HS2 := Lib.hid (show T = (q ++ [s[k]]) ++ uneA s j (k + 1) by rw [HQ.out, uneA_one s hlt (by omega) (fun h => h92 h.1)]; simp)
                clear h92 HQ
                go_wp2_with fail
                go_round
                case rel => exact ⟨k + 1, q ++ [s[k]], by omega, by go_num, by rw [← one_slice s k hks], by simp; omega, HS2⟩
                case measure => simp [intOf]; omega
            · obtain rfl : k = j := by omega
              have hTq : T = q := by rw [HQ.out, uneA_end s (Nat.le_refl _), List.append_nil]
              subst hTq
              have g1 : ¬ (k : Int) < (k : Int) := by omega
              have R1 := Lib.hid (fun w => specRecordText_any ⟨a, b, T⟩ w (show T.length ≤ 1048576 by omega))
              unfold chAgg at R1
              simp only at R1
              clear HT HQ
              go_wp2_with fail
              refine (R1.out _).mono ?_
              rintro e w1 ⟨rfl, hb1⟩
              have xc : ∀ o, w1.cell? ⟨w.heap.size, o, none⟩ = #[.int .i64 0, .int .i64 0, S []][o]? := (fun o => (hb1.cell (p := ⟨w.heap.size, o, none⟩) (by simp <;> omega)).trans (by simp [go_sem])); have xf : ∀ o, w1.frozen? ⟨w.heap.size, o, none⟩ = false := (fun o => (hb1.frozen (p := ⟨w.heap.size, o, none⟩) (by simp <;> omega)).trans (by simp [go_sem])); have xz : w.heap.size < w1.heap.size := (by have := hb1.size; (try simp at this); omega); have xy := xz
              have yc : ∀ o, w1.cell? ⟨w.heap.size + 1, o, none⟩ = #[.int .i64 a, .int .i64 b, S T][o]? := (fun o => (hb1.cell (p := ⟨w.heap.size + 1, o, none⟩) (by simp <;> omega)).trans (by simp [go_sem])); have yf : ∀ o, w1.frozen? ⟨w.heap.size + 1, o, none⟩ = false := (fun o => (hb1.frozen (p := ⟨w.heap.size + 1, o, none⟩) (by simp <;> omega)).trans (by simp [go_sem])); have yz : w.heap.size + 1 < w1.heap.size := (by have := hb1.size; (try simp at this); omega); have yy := yz
              have hW : Below w.heap.size w w1 := by (repeat (first | exact Below.refl _ _ | assumption | refine Below.drew ?_ | refine up_drewN ?_ _ | refine up_alloc ?_ _ | refine up_set ?_ _ _ (by first | exact Nat.le_refl _ | (simp; done) | (simp; omega) | omega) | refine up_trans ?_ (by assumption)))
              clear hb1 R1
              by_cases hr : recT a b T = s
              · have hd := hr
                by_cases hs0 : s = []
                · subst hs0
                  simp at hj
                · have HN := Lib.hid (YES.out _ _ _ (Y2.out T hr hs0))
                  have hd2 : (s == []) = false := by rw [beq_eq_false_iff_ne]; exact hs0
                  have hd3 : s.isEmpty = false := by simpa using hs0
                  clear hs0 NO YES N2 Y2 hr
                  generalize recT a b T = r at *
                  go_wp2_with fail
                  refine bodyPost_ret (v := .tuple #[.agg #[.int .i64 a, .int .i64 b, S T], .bool true]) (by simp [results, Tryz.results123, go_sem, xc]) rfl ⟨?_, by (repeat (first | exact Below.refl _ _ | assumption | refine Below.drew ?_ | refine up_drewN ?_ _ | refine up_alloc ?_ _ | refine up_set ?_ _ _ (by first | exact Nat.le_refl _ | (simp; done) | (simp; omega) | omega) | refine up_trans ?_ (by assumption)))⟩
                  obtain ⟨⟨q1, q2, q3⟩, q4⟩ := HN.out
                  rw [q1, q2, q3, q4]
              · have hd := hr
                have HN := Lib.hid (NO.out (N2.out (.inl hr)))
                clear hr NO YES N2 Y2
                generalize recT a b T = r at *
                go_wp2_with fail
                refine bodyPost_ret (v := .tuple #[.agg #[.int .i64 0, .int .i64 0, S []], .bool false]) (by simp [results, Tryz.results123, go_sem, xc]) rfl ⟨?_, by (repeat (first | exact Below.refl _ _ | assumption | refine Below.drew ?_ | refine up_drewN ?_ _ | refine up_alloc ?_ _ | refine up_set ?_ _ _ (by first | exact Nat.le_refl _ | (simp; done) | (simp; omega) | omega) | refine up_trans ?_ (by assumption)))⟩
                obtain ⟨⟨q1, q2, q3⟩, q4⟩ := HN.out
                rw [q1, q2, q3, q4]
      · have n1 : (((s[j]).toNat : Int) != 32) = true := by rw [bne_iff_ne]; intro e2; exact h32 (UInt8.toNat_inj.1 (by show (s[j]).toNat = 32; omega))
        have HL2 := Lib.hid (show lsp s = lsp (s.take j) by rw [HL.out, lsp_go hj h32])
        clear HL h32
        go_wp2_with fail
        go_round
        case rel => exact ⟨j, by omega, by go_num, HL2⟩
        case measure => simp [intOf]

end Go.Proofs.YtbjlkdenkmbepaaGreatDoor

namespace Go.Proofs.YtbjlkdenkmbepaaGreatDoor
open Go.RowKit

theorem index_first (c : UInt8) : ∀ (x y : List UInt8), (∀ b ∈ x, b ≠ c) → Lib.index (x ++ c :: y) [c] = (x.length : Int)
  | [], y, _ => by
    rw [List.nil_append, Lib.index]
    simp [List.isPrefixOf]
  | b :: x, y, h => by
    have ih := index_first c x y fun d hd => h d (by simp [hd])
    have hb : b ≠ c := h b (by simp)
    have hp : [c].isPrefixOf (b :: (x ++ c :: y)) = false := by
      simp [List.isPrefixOf]
      exact fun e => hb e.symm
    rw [List.cons_append, Lib.index, hp, ih]
    simp
theorem split_first (c : UInt8) (k : Nat) (x y : List UInt8) (h : ∀ b ∈ x, b ≠ c) : Lib.splitK [c] 0 (k + 1) (x ++ c :: y) = x :: Lib.splitK [c] 0 k y := by
  rw [Lib.splitK, index_first c x y h, if_neg (by simp)]
  simp
/-- the words of a text: three at most. -/
def wds (s : List UInt8) : List (List UInt8) := Lib.splitK [32] 0 (min 3 (s.length + 1) - 1) s
theorem wds_rec {s : List UInt8} {a b : Nat} {p : List UInt8} (h : IsRec s a b p) : wds s = [nm a, nm b, esc p ++ 32 :: nm (smS 0 (recB a b p))] := by
  obtain ⟨_, _, _, rfl⟩ := h
  have e : recX a b p = nm a ++ 32 :: (nm b ++ 32 :: (esc p ++ 32 :: nm (smS 0 (recB a b p)))) := by simp [recX, recB]
  have h2 : min 3 ((recX a b p).length + 1) - 1 = 2 := by
    rw [e]
    simp only [List.length_append, List.length_cons]
    omega
  unfold wds
  rw [h2, e, split_first 32 1 _ _ (no32 a), split_first 32 0 _ _ (no32 b)]
  rfl
theorem splitK_len (c : UInt8) : ∀ (k : Nat) (s : List UInt8), (Lib.splitK [c] 0 k s).length ≤ k + 1
  | 0, s => Nat.le_refl _
  | k + 1, s => by
    rw [Lib.splitK]
    split
    · simp
    · have := splitK_len c k (s.drop ((Lib.index s [c]).toNat + [c].length))
      rw [List.length_cons]
      omega
theorem splitK_word (c : UInt8) : ∀ (k : Nat) (s t : List UInt8), t ∈ Lib.splitK [c] 0 k s → t.length ≤ s.length
  | 0, s, t, h => by
    rw [Lib.splitK, List.mem_singleton] at h
    rw [h]
    exact Nat.le_refl _
  | k + 1, s, t, h => by
    rw [Lib.splitK] at h
    split at h
    · rw [List.mem_singleton] at h
      rw [h]
      exact Nat.le_refl _
    · rw [List.mem_cons] at h
      rcases h with h | h
      · rw [h, List.length_take]; omega
      · have := splitK_word c k _ t h
        rw [List.length_drop] at this
        omega
theorem wds_len (s : List UInt8) : (wds s).length ≤ 3 := by
  have := splitK_len 32 (min 3 (s.length + 1) - 1) s
  unfold wds
  omega
theorem wds_word {s t : List UInt8} (h : t ∈ wds s) : t.length ≤ s.length := splitK_word 32 _ s t h
/-- the number that strconv.Atoi returns. -/
def atV (l : List UInt8) : Int := match Lib.atoiAll l with
  | .ok v => v
  | .range => Lib.atoiSat l
  | _ => 0
theorem vl_ge : ∀ (l : List UInt8) (n : Nat), n ≤ vl n l
  | [], n => Nat.le_refl _
  | c :: l, n => by
    have := vl_ge l (10 * n + (c.toNat - 48))
    show n ≤ vl (10 * n + (c.toNat - 48)) l
    omega
theorem parse_digits : ∀ (l : List UInt8) (n : Nat), (∀ c ∈ l, 48 ≤ c.toNat ∧ c.toNat ≤ 57) → vl n l < 1000000000000000000 → Lib.parseUint10 n l = .ok (vl n l)
  | [], n, _, _ => rfl
  | c :: l, n, hd, hv => by
    have hc := hd c (by simp)
    have h1 : vl n (c :: l) = vl (10 * n + (c.toNat - 48)) l := rfl
    rw [h1] at hv
    have h2 := vl_ge l (10 * n + (c.toNat - 48))
    rw [Lib.parseUint10, if_pos hc, if_neg (by omega), if_neg (by omega), h1, Nat.mul_comm n 10]
    exact parse_digits l _ (fun d hd2 => hd d (by simp [hd2])) hv
theorem atV_nm {a : Nat} (h : a < 1000) : atV (nm a) = a := by
  have hd := nm_digits a
  have hp := nm_pos a
  have hv : vl 0 (nm a) = a := vl_nm a
  have key : Lib.atoiAll (nm a) = .ok (a : Int) := by
    cases hl : nm a with
    | nil => rw [hl] at hp; simp at hp
    | cons c r =>
      rw [hl] at hd hv
      have hc := hd c (by simp)
      have hm : Lib.parseMag (c :: r) = .ok a := by
        unfold Lib.parseMag
        rw [if_neg (by simp), parse_digits (c :: r) 0 hd (by rw [hv]; omega), hv]
      unfold Lib.atoiAll
      simp only
      rw [if_neg (by omega), hm]
      simp only
      rw [if_neg (by omega), if_neg (by omega), if_neg (by omega)]
  unfold atV
  rw [key]
/-- what the words lead to. -/
def wCh (s : List UInt8) : List UInt8 := uneA ((wds s).getD 2 []) (lsp ((wds s).getD 2 []) - 1) 0
theorem wd_no1 {s : List UInt8} (h : (wds s).length < 3) : rdM s = none := not_rec fun a b p k => by
  rw [wds_rec k] at h
  simp at h
theorem wd_no2 {s : List UInt8} (h : lsp ((wds s).getD 2 []) = 0) : rdM s = none := not_rec fun a b p k => by
  rw [wds_rec k] at h
  have h2 : lsp (esc p ++ 32 :: nm (smS 0 (recB a b p))) = 0 := h
  rw [lsp_tail _ _ (no32 _)] at h2
  omega
theorem wd_no3 {s : List UInt8} (h : recT (atV ((wds s).getD 0 [])) (atV ((wds s).getD 1 [])) (wCh s) ≠ s) : rdM s = none := not_rec fun a b p k => by
  refine h ?_
  unfold wCh
  rw [wds_rec k]
  show recT (atV (nm a)) (atV (nm b)) (uneA (esc p ++ 32 :: nm (smS 0 (recB a b p))) (lsp (esc p ++ 32 :: nm (smS 0 (recB a b p))) - 1) 0) = s
  have h1 := k.1
  have h2 := k.2.1
  rw [lsp_tail _ _ (no32 _), Nat.add_sub_cancel, atV_nm (by omega), atV_nm (by omega)]
  unfold uneA
  rw [List.take_left, List.drop_zero, une_esc]
  exact k.text.1

end Go.Proofs.YtbjlkdenkmbepaaGreatDoor

namespace Go.Proofs.YtbjlkdenkmbepaaGreatDoor
open Go.RowKit
set_option linter.unusedVariables false

def WdsPost (s : List UInt8) (w : World) (e : Ending) (w' : World) : Prop := ∃ c, e = .returned (.slice (some ⟨w.heap.size, 0, none⟩) (wds s).length c) ∧ (∀ j, j < (wds s).length → w'.cell? ⟨w.heap.size, j, none⟩ = some (S ((wds s).getD j []))) ∧ w.heap.size < w'.heap.size ∧ Below w.heap.size w w'
theorem splitN_any (s : List UInt8) (w : World) (h : MX w) (hs : s.length ≤ 1048577) :
    Calls Tryz.prog 154 #[S s, S [32], .int .i64 3] w (WdsPost s w) := by
  obtain ⟨m, hm⟩ := h
  refine (Tryz.strings_SplitN ⟨s.toArray⟩ ⟨[32].toArray⟩ 3 m w (show s.length < 4294967281 by omega) hm (by decide) (by omega) (by omega)).mono ?_
  rintro e w' ⟨he, hw⟩
  have hd := Lib.splitB_data ⟨[32].toArray⟩ 0 (min 3 (s.length + 1) - 1) ⟨s.toArray⟩
  have hz : (⟨s.toArray⟩ : ByteArray).size = s.length := rfl
  rw [hz] at he hw
  generalize Lib.splitB ⟨[32].toArray⟩ 0 (min 3 (s.length + 1) - 1) ⟨s.toArray⟩ = W at *
  have hwd : wds s = W.map (·.data.toList) := hd.symm
  have hlen : (wds s).length = W.length := by rw [hwd, List.length_map]
  refine ⟨_, by rw [hlen]; exact he, fun j hj => ?_, by rw [hw]; simp, by rw [hw]; exact up_alloc (Below.refl _ _) _⟩
  rw [hlen] at hj
  have hg : (wds s).getD j [] = W[j].data.toList := by
    rw [hwd, List.getD_eq_getElem?_getD, List.getElem?_map, List.getElem?_eq_getElem hj]
    rfl
  rw [hw, hg]
  have hc : (w.alloc (.cells (Lib.cellsOf W (min 3 (s.length + 1))) 9)).cell? ⟨w.heap.size, j, none⟩ = (Lib.cellsOf W (min 3 (s.length + 1)))[j]? := by simp only [go_sem]
  rw [hc]
  unfold Lib.cellsOf
  rw [List.getElem?_toArray, List.getElem?_append_left (by rw [List.length_map]; exact hj), List.getElem?_map, List.getElem?_eq_getElem hj]
  rfl
def AtPost (v : Int) (w : World) (e : Ending) (w' : World) : Prop := ∃ er, e = .returned (.tuple #[.int .i64 v, er]) ∧ Below w.heap.size w w'
theorem atoi_any (l : List UInt8) (w : World) (h : LW w) (hl : l.length ≤ 1048577) :
    Calls Tryz.prog 156 #[S l] w (AtPost (atV l) w) := by
  have hsz : (⟨l.toArray⟩ : ByteArray).size ≤ 281474976710656 := show l.length ≤ _ by omega
  cases hk : Lib.atoiAll l
  · rename_i v
    refine (Tryz.strconv_Atoi_ok ⟨l.toArray⟩ (show l.length ≤ _ by omega) v hk w).mono ?_
    rintro e w' ⟨he, hw⟩
    refine ⟨.nilIface, by rw [he]; unfold atV; rw [hk], ?_⟩
    rcases hw with rfl | ⟨t, rfl⟩
    · exact Below.refl _ _
    · exact Lib.bytesWorld_below w _ _
  · obtain ⟨ev, hv, hev⟩ := h.syn
    refine (Any.strconv_Atoi_syntax Tryz.laysC172 ⟨l.toArray⟩ hsz hk ev w hv hev).mono ?_
    rintro e w' ⟨N, he, _, _, hb⟩
    exact ⟨_, by rw [he]; unfold atV; rw [hk], hb⟩
  · obtain ⟨ev, hv, hev⟩ := h.rng
    refine (Tryz.strconv_Atoi_range ⟨l.toArray⟩ hsz hk ev w hv hev).mono ?_
    rintro e w' ⟨N, he, _, _, hb⟩
    exact ⟨_, by rw [he]; unfold atV; rw [hk], hb⟩

end Go.Proofs.YtbjlkdenkmbepaaGreatDoor

namespace Go.Proofs.YtbjlkdenkmbepaaGreatDoor
open Go.RowKit Go.Shelf
set_option linter.unusedVariables false

theorem builder_size : (Tryz.prog.info? 154).map (·.size) = some 2 := by kernel_rfl
theorem builder_lies : liesAt Tryz.prog Tryz.prog.depth 154 (2 / Tryz.prog.cellsOf 154) 0 154 1 = true := by kernel_rfl
theorem byte_info : (Tryz.prog.info? 5).map (fun i => (i.zero, i.size, i.bytes)) = some (some (.int .u8 0), 1, 1) := by kernel_rfl

set_option maxHeartbeats 1000000 in
set_option maxRecDepth 100000 in
theorem copyCheck_used (b : Nat) (w : World) (h0 : w.cell? ⟨b, 0, none⟩ = some (.pointer (some ⟨b, 0, none⟩))) :
    Calls Tryz.prog 182 #[.pointer (some ⟨b, 0, none⟩)] w fun e w' => e = .returned (.tuple #[]) ∧ w' = w := by
  obtain ⟨j, hj, _⟩ := Option.map_eq_some_iff.1 builder_size
  go_enter Tryz.func182, Tryz.ntmps182
  go_wp2_with fail
  rw [Lib.run_neq_ptr_same w _ Tryz.underlying152 hj]
  go_wp2_with fail
  go_end0
  exact ⟨rfl, rfl⟩

set_option maxHeartbeats 1000000 in
set_option maxRecDepth 100000 in
theorem copyCheck_fresh (b : Nat) (w : World) (h0 : w.cell? ⟨b, 0, none⟩ = some (.pointer none)) (hsh : w.shape? b = some (154, 2)) (hfz : w.frozen? ⟨b, 0, none⟩ = false) :
    Calls Tryz.prog 182 #[.pointer (some ⟨b, 0, none⟩)] w fun e w' => e = .returned (.tuple #[]) ∧ w' = w.setCell ⟨b, 0, none⟩ (.pointer (some ⟨b, 0, none⟩)) := by
  obtain ⟨j, hj, hjs⟩ := Option.map_eq_some_iff.1 builder_size
  go_enter Tryz.func182, Tryz.ntmps182
  go_wp2_with fail
  rw [Lib.run_to_unsafe w ⟨b, 0, none⟩ Tryz.underlying152 Tryz.underlying199 hj (by rw [hjs]; decide) hsh (Nat.zero_lt_succ 1)]
  simp only [Result.andThen]
  rw [Oper.upon_value]
  go_wp2_with fail
  rw [run_callFunc_extern Tryz.func205 (by kernel_rfl) (by kernel_rfl) (by kernel_rfl) (e := Extern.AbiNoEscape.same) (by kernel_rfl)]
  rw [Lib.run_noEscape]
  simp only [Result.andThen]
  rw [Oper.upon_value]
  go_wp2_with fail
  rw [Lib.run_from_unsafe w ⟨b, 0, none⟩ Tryz.underlying199 Tryz.underlying152 hj hsh builder_lies]
  simp only [Result.andThen]
  rw [Oper.upon_value]
  go_wp2_with fail
  first
    | (go_end0; exact ⟨rfl, rfl⟩)
    | (rw [Lib.run_neq_ptr_same _ _ Tryz.underlying152 hj]
       go_wp2_with fail
       go_end0
       exact ⟨rfl, rfl⟩)
theorem copyCheck_any (B b : Nat) (bs : List Value) (w : World) (h : Lib.IsBuilder 154 5 B b bs w) :
    Calls Tryz.prog 182 #[.pointer (some ⟨b, 0, none⟩)] w fun e w' => e = .returned (.tuple #[]) ∧ (Lib.BuilderAt 154 5 B b (.pointer (some ⟨b, 0, none⟩)) bs w' ∧ Below B w w') := by
  rcases h with h | h
  · refine (copyCheck_fresh b w h.cell0 h.shape h.frozen0).mono ?_
    rintro e w' ⟨rfl, rfl⟩
    exact ⟨rfl, h.used _, (Below.refl B w).setCell (p := ⟨b, 0, none⟩) h.1 _⟩
  · refine (copyCheck_used b w h.cell0).mono ?_
    rintro e w' ⟨rfl, rfl⟩
    exact ⟨rfl, h, Below.refl B _⟩

set_option maxHeartbeats 2000000 in
set_option maxRecDepth 100000 in
theorem writeString_any (B b : Nat) (bs : List Value) (s : ByteArray) (w : World) (h : Lib.IsBuilder 154 5 B b bs w) (hlen : bs.length + s.size ≤ 140737488355328) (hBw : B ≤ w.heap.size) :
    Calls Tryz.prog 198 #[.pointer (some ⟨b, 0, none⟩), .string s] w fun e w' => e = .returned (.tuple #[.int .i64 s.size, .nilIface]) ∧ (Lib.BuilderAt 154 5 B b (.pointer (some ⟨b, 0, none⟩)) (bs ++ Lib.strCells s) w' ∧ Below B w w') := by
  obtain ⟨i0, hi, hz0, hz1, hz2⟩ := info_parts byte_info
  go_enter Tryz.func198, Tryz.ntmps198
  go_wp2_with fail
  refine (copyCheck_any B b bs _ h).mono ?_
  rintro e w1 ⟨rfl, h1, hb1⟩
  obtain ⟨hB, v, hbk, hown, hne⟩ := h1
  have c0 : w1.cell? ⟨b, 0, none⟩ = some (.pointer (some ⟨b, 0, none⟩)) := by rw [Lib.cell_of_heap hbk]; rfl
  have c1 : w1.cell? ⟨b, 1, none⟩ = some v := by rw [Lib.cell_of_heap hbk]; rfl
  go_wp2_with (at_builtin; refine Lib.wpList_append_own_string _ rfl _ _ 22 9 rfl B 5 i0 Tryz.underlying22 Tryz.underlying9 hi hz0 hz1 hz2 _ _ _ rfl hown s rfl ?c3 ?c4 ?c5 ?_)
  case c3 => unfold maxLen; omega
  case c4 => omega
  case c5 => have := hb1.size; omega
  intro v' w2 hown' hgrow _
  have hlt : b < w1.heap.size := by
    rcases Nat.lt_or_ge b w1.heap.size with h' | h'
    · exact h'
    · simp [Array.getElem?_eq_none h'] at hbk
  have hb2 : w2.heap[b]? = some (.cells #[.pointer (some ⟨b, 0, none⟩), v] 154 (0, 0)) := by
    rw [hgrow.block b hlt (fun e => hne e.symm)]
    exact hbk
  have d0 : w2.cell? ⟨b, 0, none⟩ = some (.pointer (some ⟨b, 0, none⟩)) := by rw [Lib.cell_of_heap hb2]; rfl
  have d1 : w2.cell? ⟨b, 1, none⟩ = some v := by rw [Lib.cell_of_heap hb2]; rfl
  have f1 : w2.frozen? ⟨b, 1, none⟩ = false := Lib.frozen_of_heap hb2 1
  obtain ⟨ao, n', cap, rfl⟩ : ∃ ao n' cap, v' = .slice ao n' cap := by
    rcases hown'.2 with ⟨hv, _⟩ | ⟨g, cap, cur, hv, _⟩
    · exact ⟨_, _, _, hv⟩
    · exact ⟨_, _, _, hv⟩
  go_wp2_with fail
  go_ret2
  refine ⟨rfl, ?_, ?_⟩
  · exact Lib.BuilderAt.put (T := 154) (e := 5) hB hb2 (bs' := bs ++ Lib.strCells s) (by simpa [Lib.strCells_length] using hown') (by decide)
  · exact (hb1.grown hgrow (by have := hb1.size; omega) (fun k hk => (hown.lt k hk).1)).setCell (p := ⟨b, 1, none⟩) hB _

end Go.Proofs.YtbjlkdenkmbepaaGreatDoor

namespace Go.Proofs.YtbjlkdenkmbepaaGreatDoor
open Go.RowKit Go.Shelf
set_option linter.unusedVariables false

set_option maxHeartbeats 2000000 in
set_option maxRecDepth 100000 in
theorem writeByte_any (B b : Nat) (bs : List Value) (c : Int) (w : World) (h : Lib.IsBuilder 154 5 B b bs w) (hlen : bs.length + 1 ≤ 140737488355328) (hBw : B ≤ w.heap.size) :
    Calls Tryz.prog 157 #[.pointer (some ⟨b, 0, none⟩), .int .u8 c] w fun e w' => e = .returned .nilIface ∧ (Lib.BuilderAt 154 5 B b (.pointer (some ⟨b, 0, none⟩)) (bs ++ [.int .u8 c]) w' ∧ Below B w w') := by
  obtain ⟨i0, hi, hz0, hz1, hz2⟩ := info_parts byte_info
  go_enter Tryz.func157, Tryz.ntmps157
  go_wp2_with fail
  refine (copyCheck_any B b bs _ h).mono ?_
  rintro e w1 ⟨rfl, h1, hb1⟩
  obtain ⟨hB, v, hbk, hown, hne⟩ := h1
  have c0 : w1.cell? ⟨b, 0, none⟩ = some (.pointer (some ⟨b, 0, none⟩)) := by rw [Lib.cell_of_heap hbk]; rfl
  have c1 : w1.cell? ⟨b, 1, none⟩ = some v := by rw [Lib.cell_of_heap hbk]; rfl
  go_wp2_with (at_builtin; refine wpList_append_own _ rfl _ _ 22 rfl B 5 i0 (.int .u8 0) 1 1 Tryz.underlying22 hi hz0 hz1 hz2 rfl (by decide) _ _ _ rfl (hown.alloc _) ⟨w1.heap.size, 0, none⟩ 1 1 [.int .u8 c] rfl rfl ?c1 ?c2 ?c3 ?c4 ?c5 ?_)
  case c1 => exact cells_new w1 [.int .u8 c] 5
  case c2 => intro u hu; simp at hu; subst hu; rfl
  case c3 => unfold maxLen; omega
  case c4 => omega
  case c5 => have := hb1.size; simp; omega
  intro v' w2 hown' hgrow _
  have hlt : b < w1.heap.size := by
    rcases Nat.lt_or_ge b w1.heap.size with h' | h'
    · exact h'
    · simp [Array.getElem?_eq_none h'] at hbk
  have hb2 : w2.heap[b]? = some (.cells #[.pointer (some ⟨b, 0, none⟩), v] 154 (0, 0)) := by
    rw [hgrow.block b (by simp; omega) (fun e => hne e.symm), Lib.alloc_old w1 _ b hlt]
    exact hbk
  have d0 : w2.cell? ⟨b, 0, none⟩ = some (.pointer (some ⟨b, 0, none⟩)) := by rw [Lib.cell_of_heap hb2]; rfl
  have d1 : w2.cell? ⟨b, 1, none⟩ = some v := by rw [Lib.cell_of_heap hb2]; rfl
  have f1 : w2.frozen? ⟨b, 1, none⟩ = false := Lib.frozen_of_heap hb2 1
  obtain ⟨g, cap, rfl⟩ : ∃ g cap, v' = .slice (some ⟨g, 0, none⟩) (bs.length + 1) cap := by
    rcases hown'.2 with ⟨_, h0⟩ | ⟨g, cap, cur, hv, _⟩
    · omega
    · exact ⟨g, cap, hv⟩
  go_wp2_with fail
  go_ret
  refine ⟨rfl, ?_, ?_⟩
  · exact Lib.BuilderAt.put (T := 154) (e := 5) hB hb2 (bs' := bs ++ [.int .u8 c]) (by simpa using hown') (by decide)
  · exact ((hb1.alloc (by have := hb1.size; omega) _).grown hgrow (by have := hb1.size; simp; omega) (fun k hk => (hown.lt k hk).1)).setCell (p := ⟨b, 1, none⟩) hB _

end Go.Proofs.YtbjlkdenkmbepaaGreatDoor
