/- What is proved here: the contract of the reference's WrapRows. No condition. -/
import Derived.Test.YtcjgllbhmghkeaaDoorWr3
import Derived.Test.YtcjgllbhmghkeaaDoorLin2
namespace Go.Proofs.YtcjgllbhmghkeaaDoor
open Go.RowKit
set_option linter.unusedVariables false

theorem row_empty (w : World) (B : Nat) (hB : B ≤ w.heap.size) : Own (w.alloc (.cells #[] 60)) B 60 2 (.slice (some ⟨w.heap.size, 0, none⟩) 0 0) 0 [] :=
  ⟨rfl, .inr ⟨w.heap.size, 0, #[], rfl, hB, heap_alloc_new _ _, Nat.le_refl _, Nat.zero_le _, rfl, rfl⟩⟩
theorem lsp_step {s : List UInt8} {b m : Nat} (hm : b + m < s.length) (h : s[b + m] ≠ 32) : lsp ((s.drop b).take (m + 1)) = lsp ((s.drop b).take m) := by
  have hl : m < (s.drop b).length := by rw [List.length_drop]; omega
  rw [List.take_succ_eq_append_getElem hl, List.getElem_drop]
  exact lsp_other _ h
theorem lsp_stop {s : List UInt8} {b m : Nat} (hm : b + m < s.length) (h : s[b + m] = 32) : lsp ((s.drop b).take (m + 1)) = m + 1 := by
  have hl : m < (s.drop b).length := by rw [List.length_drop]; omega
  rw [List.take_succ_eq_append_getElem hl, List.getElem_drop, h, lsp_space, List.length_take]
  omega
set_option maxRecDepth 100000 in
set_option maxHeartbeats 4000000 in
theorem specWrapRows_any (s : List UInt8) (wd : Int) (w : World) (hs : s.length ≤ maxLen) :
    Calls Tryd.prog 44 #[S s, .int .i64 wd] w (WrPost (wrR s wd) w) := by
  unfold WrPost
  have M := Lib.hid (fun w' => specLineMany_any s w' hs)
  have I := Lib.hid (fun w' => l1In_any wd 4 40 w')
  obtain ⟨i0, hi0, hz0, hz1, hz2⟩ := info_parts row_info
  by_cases hw : inB wd 4 40 = true
  case neg =>
    simp only [Bool.not_eq_true] at hw
    have HR := Lib.hid (show wrR s wd = [] by unfold wrR; rw [if_neg (by rw [hw]; simp)])
    rw [HR.out]
    rw [hw] at I
    clear hw
    go_enter Tryd.func44, Tryd.ntmps44
    go_wp2_with fail
    refine (I.out _).mono ?_
    rintro e w1 ⟨rfl, rfl⟩
    go_wp2_with fail
    go_ret
    exact ⟨_, rfl, row_empty w w.heap.size (Nat.le_refl _), by (repeat (first | exact Below.refl _ _ | assumption | refine Below.drew ?_ | refine up_drewN ?_ _ | refine up_alloc ?_ _ | refine up_set ?_ _ _ (by first | exact Nat.le_refl _ | (simp; done) | (simp; omega) | omega) | refine up_trans ?_ (by assumption)))⟩
  case pos =>
    have hwi := inB_iff.1 hw
    obtain ⟨wn, rfl⟩ : ∃ wn : Nat, wd = wn := ⟨wd.toNat, by omega⟩
    rw [hw] at I
    rcases ht : tv s with _ | _
    · have HR := Lib.hid (show wrR s (wn : Int) = [] by unfold wrR; rw [if_neg (by rw [ht]; simp)])
      rw [HR.out]
      rw [ht] at M
      simp only [Bool.false_eq_true, if_false] at M
      clear ht hw
      go_enter Tryd.func44, Tryd.ntmps44
      go_wp2_with fail
      refine (I.out _).mono ?_
      rintro e w1 ⟨rfl, rfl⟩
      go_wp2_with fail
      refine wp_loop_rounds 1 ?_
      rw [rounds_succ]
      go_wp2_with fail
      refine (M.out _).mono ?_
      rintro e w1 ⟨rfl, rfl⟩
      go_wp2_with fail
      go_ret
      exact ⟨_, rfl, row_empty w w.heap.size (Nat.le_refl _), by (repeat (first | exact Below.refl _ _ | assumption | refine Below.drew ?_ | refine up_drewN ?_ _ | refine up_alloc ?_ _ | refine up_set ?_ _ _ (by first | exact Nat.le_refl _ | (simp; done) | (simp; omega) | omega) | refine up_trans ?_ (by assumption)))⟩
    · have HR := Lib.hid (show wrR s (wn : Int) = rowsTo s wn (nl s + 1) by unfold wrR; rw [if_pos ⟨ht, hw⟩, Int.toNat_natCast]; rfl)
      rw [HR.out]
      have hsl := tv_len ht
      have hnl := nl_le s
      have LS := Lib.hid (fun w' q hq => specLineStart_any s q w' ht hq)
      have LE := Lib.hid (fun w' q hq => specLineEnd_any s q w' ht hq)
      rw [ht] at M
      simp only [if_true] at M
      clear ht hw HR
      go_enter Tryd.func44, Tryd.ntmps44
      go_wp2_with fail
      refine (I.out _).mono ?_
      rintro e w1 ⟨rfl, rfl⟩
      have HE0 := Lib.hid (row_empty w w.heap.size (Nat.le_refl _))
      have HB0 := Lib.hid (show Below w.heap.size w (w.alloc (.cells #[] 60)) from up_alloc (Below.refl _ _) _)
      obtain ⟨B0, hB0⟩ : ∃ B0, B0 = w.heap.size := ⟨_, rfl⟩
      clear I
      go_wp2_with fail
      go_loopw [5, 6, 7, 8, 9] (fun out i at_ e t wr => ∃ (q a : Nat) (acc : List (Nat × Nat)) (OA : Option Addr) (OC : Nat), q ≤ nl s + 1 ∧ i = .int .i64 q ∧ out = .slice OA acc.length OC ∧ (q ≤ nl s → a = lst s q) ∧ a ≤ 121 ∧ acc.length ≤ a ∧ Hid (acc = rowsTo s wn q) ∧ Hid (OwnR wr B0 (.slice OA acc.length OC) acc) ∧ Hid (Below w.heap.size w wr)) (fun _ i _ _ _ _ => nl s + 1 - (intOf i).toNat)
      case atStart => exact ⟨0, 0, [], some ⟨w.heap.size, 0, none⟩, 0, Nat.zero_le _, rfl, rfl, fun _ => (lst_eq (Nat.zero_le _) ⟨rfl, .inl rfl⟩).symm, by omega, by simp, Lib.hid rfl, by rw [hB0]; exact HE0, HB0⟩
      case round =>
        obtain ⟨q, a, acc, OA, OC, hq, rfl, rfl, ha, ha2, hac, HA, HO, HB⟩ := hrel
        clear HE0 HB0
        by_cases hlt : q ≤ nl s
        · have i1 : (0 : Int) ≤ (q : Int) := by omega
          have i2' : (q : Int) < 1 + (nl s : Int) := by omega
          have hle := lend_le s q hlt
          have LS2 := Lib.hid (fun w' => LS.out w' q hlt)
          have LE2 := Lib.hid (fun w' => LE.out w' q hlt)
          obtain ⟨e, he⟩ : ∃ e, e = lend s q := ⟨_, rfl⟩
          rw [← he] at hle LE2
          have haq := ha hlt
          rw [← haq] at hle LS2
          have HQ := Lib.hid (show rowsTo s wn (q + 1) = acc ++ rwL s wn a e by rw [rowsTo_succ, HA.out, he, haq])
          have HN := Lib.hid (show q < nl s → lst s (q + 1) = e + 1 by intro h; rw [he]; exact (lst_next s q h).2)
          have HE := Lib.hid (show e ≤ 120 by omega)
          clear he haq ha HA
          go_wp2_with fail
          refine (M.out _).mono ?_
          rintro e1 w1 ⟨rfl, rfl⟩
          go_wp2_with fail
          refine (LS2.out _).mono ?_
          rintro e1 w1 ⟨rfl, rfl⟩
          go_wp2_with fail
          refine (LE2.out _).mono ?_
          rintro e1 w1 ⟨rfl, rfl⟩
          go_wp2_with fail
          go_loopw [5, 7, 9] (fun out at_ t wr' => ∃ (b : Nat) (bcc : List (Nat × Nat)) (OA2 : Option Addr) (OC2 : Nat), out = .slice OA2 bcc.length OC2 ∧ at_ = .int .i64 b ∧ a ≤ b ∧ b ≤ e ∧ bcc.length ≤ b ∧ Hid (acc ++ rwL s wn a e = bcc ++ rwL s wn b e) ∧ Hid (OwnR wr' B0 (.slice OA2 bcc.length OC2) bcc) ∧ Hid (Below w.heap.size w wr')) (fun _ at_ _ _ => e - (intOf at_).toNat)
          case atStart => exact ⟨a, acc, OA, OC, rfl, rfl, Nat.le_refl _, hle.1, hac, Lib.hid rfl, HO, HB⟩
          case round =>
            obtain ⟨b, bcc, OA2, OC2, rfl, rfl, hab, hbe, hbc, HQ2, HO2, HB2⟩ := hrel
            clear HO HB
            have he120 := HE.out
            have hs2 := HB2.out.size
            by_cases hgt : wn < e - b
            · have j1 : (wn : Int) < (e : Int) - (b : Int) := by omega
              have j2 : IntKind.i64.wrap ((e : Int) - (b : Int)) = (e : Int) - (b : Int) := IntWalk.i64_in _ (by omega)
              have j3 : IntKind.i64.wrap ((b : Int) + (wn : Int)) = ((b + wn : Nat) : Int) := by rw [IntWalk.i64_in _ (by omega)]; omega
              have hcin := cutP_in s b (wd := wn) (by omega)
              have HQ3 := Lib.hid (show acc ++ rwL s wn a e = (bcc ++ [(b, cutP s wn b)]) ++ rwL s wn (cutP s wn b) e by rw [HQ2.out, rwL_step s (by omega) (by omega)]; simp)
              have HCP := Lib.hid (show cutP s wn b = b + if lsp ((s.drop b).take wn) = 0 then wn else lsp ((s.drop b).take wn) from rfl)
              obtain ⟨cp, hcp0⟩ : ∃ cp, cp = cutP s wn b := ⟨_, rfl⟩
              rw [← hcp0] at HCP hcin HQ3
              clear HQ2 hcp0
              go_wp2_with fail
              go_loop [9] (fun t => ∃ m : Nat, m ≤ wn ∧ t = .int .i64 ((b + m : Nat) : Int) ∧ Hid (lsp ((s.drop b).take wn) = lsp ((s.drop b).take m))) (fun t => (intOf t).toNat)
              case atStart => exact ⟨wn, Nat.le_refl _, rfl, Lib.hid rfl⟩
              case round =>
                obtain ⟨m, hm, rfl, HL⟩ := hrel
                rcases m with _ | m
                · have HC0 := Lib.hid (show cp = b + wn by rw [HCP.out, HL.out]; rfl)
                  have k1 : ((b : Int) == (b : Int)) = true := by simp
                  clear HL HCP
                  simp only [Nat.add_zero]
                  go_wp2_with (at_builtin; go_loud (
                     refine wpList_append_own _ rfl _ _ 57 rfl B0 60 i0 (.agg #[.int .i64 0, .int .i64 0]) 2 16 Tryd.underlying57 hi0 hz0 hz1 hz2 rfl (by decide) _ _ _ rfl (HO2.out.alloc _) ⟨wr.heap.size, 0, none⟩ 1 1 [.int .i64 (b : Int), .int .i64 (((b + wn : Nat) : Int))] rfl rfl (cells_new _ _ _) (by intro u hu; simp at hu; rcases hu with rfl | rfl <;> rfl) (by unfold maxLen; omega) (by omega) (by first | omega | (simp; done) | (simp; omega)) ?_
                     intro v9 w9 how hgr _
                     obtain ⟨ncc, hncc, hnl9, HO9⟩ : ∃ ncc : List (Nat × Nat), Hid (ncc = bcc ++ [(b, b + wn)]) ∧ ncc.length ≤ bcc.length + 1 ∧ Hid (OwnR w9 B0 v9 ncc) := ⟨bcc ++ [(b, b + wn)], Lib.hid rfl, by simp, Lib.hid (own_rows (by simpa [rowC] using how) (by simp))⟩
                     obtain ⟨A9, c9, rfl, -, -⟩ := (RdL.of_own (f := rowC) (bs := ncc) HO9.out).form
                     have HB9 := Lib.hid (up_own_grown (up_alloc HB2.out _) (HO2.out.alloc _) hgr (by omega))
                     clear how hgr))
                  go_roundw
                  case rel => exact ⟨b + wn, ncc, A9, c9, rfl, rfl, by omega, by have := HC0.out; omega, by omega, by rw [hncc.out, ← HC0.out]; exact HQ3, HO9, HB9⟩
                  case measure => simp [intOf]; omega
                · have hbm : b + m < s.length := by omega
                  have k1 : (b : Int) < ((b + (m + 1) : Nat) : Int) := by omega
                  have k2 : IntKind.i64.wrap (((b + (m + 1) : Nat) : Int) - 1) = ((b + m : Nat) : Int) := by rw [IntWalk.i64_in _ (by omega)]; omega
                  have k3 : (0 : Int) ≤ ((b + m : Nat) : Int) := by omega
                  have k4 : ((b + m : Nat) : Int) < (s.length : Int) := by omega
                  by_cases h32 : s[b + m] = 32
                  · have HC0 := Lib.hid (show cp = b + (m + 1) by rw [HCP.out, HL.out, lsp_stop hbm h32, if_neg (by omega)])
                    have n1 : (((s[b + m]).toNat : Int) == 32) = true := by rw [h32]; rfl
                    have k5 : (((b + (m + 1) : Nat) : Int) == (b : Int)) = false := by rw [beq_eq_false_iff_ne]; omega
                    clear HL HCP h32
                    obtain ⟨c, hc⟩ : ∃ c, c = b + (m + 1) := ⟨_, rfl⟩
                    rw [← hc] at HC0 k1 k2 k5 ⊢
                    have hcb : b + 1 ≤ c ∧ c ≤ b + wn ∧ c ≤ e := by have := HC0.out; omega
                    clear hc
                    go_wp2_with (at_builtin; go_loud (
                     refine wpList_append_own _ rfl _ _ 57 rfl B0 60 i0 (.agg #[.int .i64 0, .int .i64 0]) 2 16 Tryd.underlying57 hi0 hz0 hz1 hz2 rfl (by decide) _ _ _ rfl (HO2.out.alloc _) ⟨wr.heap.size, 0, none⟩ 1 1 [.int .i64 (b : Int), .int .i64 (c : Int)] rfl rfl (cells_new _ _ _) (by intro u hu; simp at hu; rcases hu with rfl | rfl <;> rfl) (by unfold maxLen; omega) (by omega) (by first | omega | (simp; done) | (simp; omega)) ?_
                     intro v9 w9 how hgr _
                     obtain ⟨ncc, hncc, hnl9, HO9⟩ : ∃ ncc : List (Nat × Nat), Hid (ncc = bcc ++ [(b, c)]) ∧ ncc.length ≤ bcc.length + 1 ∧ Hid (OwnR w9 B0 v9 ncc) := ⟨bcc ++ [(b, c)], Lib.hid rfl, by simp, Lib.hid (own_rows (by simpa [rowC] using how) (by simp))⟩
                     obtain ⟨A9, c9, rfl, -, -⟩ := (RdL.of_own (f := rowC) (bs := ncc) HO9.out).form
                     have HB9 := Lib.hid (up_own_grown (up_alloc HB2.out _) (HO2.out.alloc _) hgr (by omega))
                     clear how hgr))
                    go_roundw
                    case rel => exact ⟨c, ncc, A9, c9, rfl, rfl, by omega, by omega, by omega, by rw [hncc.out, ← HC0.out]; exact HQ3, HO9, HB9⟩
                    case measure => simp [intOf]; omega
                  · have n1 : (((s[b + m]).toNat : Int) == 32) = false := by
                      rw [beq_eq_false_iff_ne]
                      intro e2
                      exact h32 (UInt8.toNat_inj.1 (by show (s[b + m]).toNat = 32; omega))
                    have HL2 := Lib.hid (show lsp ((s.drop b).take wn) = lsp ((s.drop b).take m) by rw [HL.out, lsp_step hbm h32])
                    clear HL h32
                    go_wp2_with fail
                    go_round
                    case rel => exact ⟨m, by omega, congrArg (Value.int .i64) (by omega), HL2⟩
                    case measure => simp [intOf]; omega
            · have j1 : ¬ (wn : Int) < (e : Int) - (b : Int) := by omega
              have j2 : IntKind.i64.wrap ((e : Int) - (b : Int)) = (e : Int) - (b : Int) := IntWalk.i64_in _ (by omega)
              have j3 : IntKind.i64.wrap ((q : Int) + 1) = ((q + 1 : Nat) : Int) := by rw [IntWalk.i64_in _ (by omega)]; omega
              have HQ3 := Lib.hid (show rowsTo s wn (q + 1) = bcc ++ [(b, e)] by rw [HQ.out, HQ2.out, rwL_stop s (by omega)])
              clear HQ2 HQ
              go_wp2_with (at_builtin; go_loud (
                     refine wpList_append_own _ rfl _ _ 57 rfl B0 60 i0 (.agg #[.int .i64 0, .int .i64 0]) 2 16 Tryd.underlying57 hi0 hz0 hz1 hz2 rfl (by decide) _ _ _ rfl (HO2.out.alloc _) ⟨wr.heap.size, 0, none⟩ 1 1 [.int .i64 (b : Int), .int .i64 (e : Int)] rfl rfl (cells_new _ _ _) (by intro u hu; simp at hu; rcases hu with rfl | rfl <;> rfl) (by unfold maxLen; omega) (by omega) (by first | omega | (simp; done) | (simp; omega)) ?_
                     intro v9 w9 how hgr _
                     obtain ⟨ncc, hncc, hnl9, HO9⟩ : ∃ ncc : List (Nat × Nat), Hid (ncc = bcc ++ [(b, e)]) ∧ ncc.length ≤ bcc.length + 1 ∧ Hid (OwnR w9 B0 v9 ncc) := ⟨bcc ++ [(b, e)], Lib.hid rfl, by simp, Lib.hid (own_rows (by simpa [rowC] using how) (by simp))⟩
                     obtain ⟨A9, c9, rfl, -, -⟩ := (RdL.of_own (f := rowC) (bs := ncc) HO9.out).form
                     have HB9 := Lib.hid (up_own_grown (up_alloc HB2.out _) (HO2.out.alloc _) hgr (by omega))
                     clear how hgr))
              go_roundw
              case rel => exact ⟨q + 1, e + 1, ncc, A9, c9, by omega, by go_num, rfl, fun h => (HN.out (by omega)).symm, by omega, by omega, by rw [hncc.out]; exact Lib.hid HQ3.out.symm, HO9, HB9⟩
              case measure => simp [intOf]; omega
        · obtain rfl : q = nl s + 1 := by omega
          have HA2 := HA
          have i2' : ¬ ((nl s + 1 : Nat) : Int) < 1 + (nl s : Int) := by omega
          have i3' : ¬ (nl s : Int) + 1 < 1 + (nl s : Int) := by omega
          go_wp2_with fail
          refine (M.out _).mono ?_
          rintro e1 w1 ⟨rfl, rfl⟩
          go_wp2_with fail
          go_ret
          refine ⟨_, rfl, ?_, HB.out⟩
          rw [← HA2.out]
          exact own_base HO.out (by omega)

end Go.Proofs.YtcjgllbhmghkeaaDoor
