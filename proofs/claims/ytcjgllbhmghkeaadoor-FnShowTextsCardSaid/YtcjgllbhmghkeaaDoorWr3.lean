/- What is proved here: the contract of the program's WrapRows. Condition: the cell of the library's MaxLen holds an int. -/
import Derived.Test.YtcjgllbhmghkeaaDoorWr1
import Derived.Test.YtcjgllbhmghkeaaDoorWr2
import Derived.Test.YtcjgllbhmghkeaaDoorLin1
import Derived.Test.YtcjgllbhmghkeaaDoorView0
namespace Go.Proofs.YtcjgllbhmghkeaaDoor
open Go.RowKit
set_option linter.unusedVariables false

def rowC (r : Nat × Nat) : List Value := [.int .i64 (r.1 : Int), .int .i64 (r.2 : Int)]
theorem rowC_len (r : Nat × Nat) : (rowC r).length = 2 := rfl
/-- the rows of a text in a window, or none. -/
def wrR (s : List UInt8) (wd : Int) : List (Nat × Nat) := if tv s = true ∧ inB wd 4 40 = true then rowsOf s wd.toNat else []
abbrev OwnR (w : World) (base : Nat) (v : Value) (rs : List (Nat × Nat)) : Prop := Own w base 60 2 v rs.length (rs.flatMap rowC)
theorem row_info : (Tryd.prog.info? 60).map (fun i => (i.zero, i.size, i.bytes)) = some (some (.agg #[.int .i64 0, .int .i64 0]), 2, 16) := by kernel_rfl
def WrPost (rs : List (Nat × Nat)) (w : World) (e : Ending) (w' : World) : Prop := ∃ v, e = .returned v ∧ OwnR w' w.heap.size v rs ∧ Below w.heap.size w w'
theorem own_rows {w : World} {B n : Nat} {v : Value} {xs ys : List (Nat × Nat)} (h : Own w B 60 2 v n (xs.flatMap rowC ++ ys.flatMap rowC)) (hn : n = (xs ++ ys).length) : OwnR w B v (xs ++ ys) := by
  rw [OwnR, List.flatMap_append]
  rw [hn] at h
  exact h

theorem isWidth_any (a : Int) (w : World) : Calls Tryd.prog 25 #[.int .i64 a] w fun e w' => e = .returned (.bool (inB a 4 40)) ∧ w = w' := by
  go_enter Tryd.func25, Tryd.ntmps25
  go_wp2_with fail
  refine (in_any a 4 40 _).mono ?_
  rintro e w1 ⟨rfl, rfl⟩
  go_wp2_with fail
  go_ret
  exact ⟨rfl, rfl⟩

theorem up_own_grown {w a b : World} {B : Nat} {size n : Nat} {e : TypeId} {v : Value} {xs : List Value} (h : Below w.heap.size w a) (ho : Own a B e size v n xs) (hg : a.grownBy b v.ownBlock) (hB : w.heap.size ≤ B) : Below w.heap.size w b := up_grown h hg fun k hk => by have := (ho.lt k hk).1; omega
set_option maxRecDepth 100000 in
set_option maxHeartbeats 4000000 in
theorem implWrapRows_any (s : List UInt8) (wd : Int) (w : World) (hs : s.length ≤ maxLen) (hm : MX w) :
    Calls Tryd.prog 37 #[S s, .int .i64 wd] w (WrPost (wrR s wd) w) := by
  unfold WrPost
  have T := Lib.hid (fun w' => implTextValid_any s w' hs)
  have I := Lib.hid (fun w' => isWidth_any wd w')
  obtain ⟨i0, hi0, hz0, hz1, hz2⟩ := info_parts row_info
  by_cases hv : tv s = true ∧ inB wd 4 40 = true
  case neg =>
    have HR := Lib.hid (show wrR s wd = [] by unfold wrR; rw [if_neg hv])
    rw [HR.out]
    rcases ht : tv s with _ | _
    · rw [ht] at T
      clear hv ht
      go_enter Tryd.func37, Tryd.ntmps37
      go_wp2_with fail
      refine (T.out _).mono ?_
      rintro e w1 ⟨rfl, rfl⟩
      go_wp2_with fail
      go_ret
      exact ⟨_, rfl, World.ownsRow_nil _ _ _ _, by (repeat (first | exact Below.refl _ _ | assumption | refine Below.drew ?_ | refine up_drewN ?_ _ | refine up_alloc ?_ _ | refine up_set ?_ _ _ (by first | exact Nat.le_refl _ | (simp; done) | (simp; omega) | omega) | refine up_trans ?_ (by assumption)))⟩
    · rw [ht] at T
      have hw : inB wd 4 40 = false := by
        cases h : inB wd 4 40 with
        | false => rfl
        | true => exact absurd ⟨ht, h⟩ hv
      rw [hw] at I
      clear hv ht hw
      go_enter Tryd.func37, Tryd.ntmps37
      go_wp2_with fail
      refine (T.out _).mono ?_
      rintro e w1 ⟨rfl, rfl⟩
      go_wp2_with fail
      refine (I.out _).mono ?_
      rintro e w2 ⟨rfl, rfl⟩
      go_wp2_with fail
      go_ret
      exact ⟨_, rfl, World.ownsRow_nil _ _ _ _, by (repeat (first | exact Below.refl _ _ | assumption | refine Below.drew ?_ | refine up_drewN ?_ _ | refine up_alloc ?_ _ | refine up_set ?_ _ _ (by first | exact Nat.le_refl _ | (simp; done) | (simp; omega) | omega) | refine up_trans ?_ (by assumption)))⟩
  case pos =>
    obtain ⟨ht, hw⟩ := hv
    have hwi := inB_iff.1 hw
    obtain ⟨wn, rfl⟩ : ∃ wn : Nat, wd = wn := ⟨wd.toNat, by omega⟩
    have HR := Lib.hid (show wrR s (wn : Int) = rowsTo s wn (nl s + 1) by unfold wrR; rw [if_pos ⟨ht, hw⟩, Int.toNat_natCast]; rfl)
    rw [HR.out]
    have hsl := tv_len ht
    have hnl := nl_le s
    rw [ht] at T
    rw [hw] at I
    have L := Lib.hid (fun w' (hb : Below w.heap.size w w') => linesOf_any s w' hsl (hm.up hb))
    clear ht hw HR hm
    go_enter Tryd.func37, Tryd.ntmps37
    go_wp2_with fail
    refine (T.out _).mono ?_
    rintro e w1 ⟨rfl, rfl⟩
    go_wp2_with fail
    refine (I.out _).mono ?_
    rintro e w1 ⟨rfl, rfl⟩
    go_wp2_with fail
    refine (L.out _ (by (repeat (first | exact Below.refl _ _ | assumption | refine Below.drew ?_ | refine up_drewN ?_ _ | refine up_alloc ?_ _ | refine up_set ?_ _ _ (by first | exact Nat.le_refl _ | (simp; done) | (simp; omega) | omega) | refine up_trans ?_ (by assumption))))).mono ?_
    rintro e w1 ⟨lg, rfl, hol, hb⟩
    have hW : Below w.heap.size w w1 := by (repeat (first | exact Below.refl _ _ | assumption | refine Below.drew ?_ | refine up_drewN ?_ _ | refine up_alloc ?_ _ | refine up_set ?_ _ _ (by first | exact Nat.le_refl _ | (simp; done) | (simp; omega) | omega) | refine up_trans ?_ (by assumption)))
    have HL := Lib.hid hol
    have HW := Lib.hid hW
    have hlz : lg < w1.heap.size := (hol.lt lg rfl).2
    obtain ⟨B0, hB0⟩ : ∃ B0, B0 = w1.heap.size := ⟨_, rfl⟩
    have hwB : w.heap.size ≤ B0 := by have := hW.size; omega
    have hlst0 : lst s 0 = 0 := lst_eq (Nat.zero_le _) ⟨rfl, .inl rfl⟩
    clear hb hol L T I hW
    go_wp2_with fail
    go_loopw [5, 6, 8, 9, 10, 11, 23] (fun out at_ l e t n i wr => ∃ (q a : Nat) (acc : List (Nat × Nat)) (OA : Option Addr) (OC : Nat), q ≤ nl s + 1 ∧ i = .int .i64 q ∧ out = .slice OA acc.length OC ∧ at_ = .int .i64 a ∧ (q ≤ nl s → a = lst s q) ∧ a ≤ 121 ∧ acc.length ≤ a ∧ Hid (acc = rowsTo s wn q) ∧ Hid (OwnR wr B0 (.slice OA acc.length OC) acc) ∧ Hid (Below w1.heap.size w1 wr)) (fun _ _ _ _ _ _ i _ => nl s + 1 - (intOf i).toNat)
    case atStart => exact ⟨0, 0, [], none, 0, Nat.zero_le _, rfl, rfl, rfl, fun _ => hlst0.symm, by omega, by simp, Lib.hid rfl, Lib.hid (World.ownsRow_nil _ _ _ _), Lib.hid (Below.refl _ _)⟩
    case round =>
      obtain ⟨q, a, acc, OA, OC, hq, rfl, rfl, rfl, ha, ha2, hac, HA, HO, HB⟩ := hrel
      by_cases hlt : q ≤ nl s
      · have i1 : (0 : Int) ≤ (q : Int) := by omega
        have i2 : (q : Int) < ((nl s + 1 : Nat) : Int) := by omega
        have i2' : (q : Int) < (nl s : Int) + 1 := by omega
        have hc := lns_cell (own_up HL.out HB.out) hlt
        have hle := lend_le s q hlt
        have hlen := lnT_len s q hlt
        obtain ⟨t, ht⟩ : ∃ t, t = lnT s q := ⟨_, rfl⟩
        rw [← ht] at hc hlen
        obtain ⟨e, he⟩ : ∃ e, e = lend s q := ⟨_, rfl⟩
        rw [← he] at hle hlen
        have haq := ha hlt
        rw [← haq] at hle hlen
        have hadd : IntKind.i64.wrap ((a : Int) + (t.length : Int)) = (e : Int) := by rw [IntWalk.i64_in _ (by omega)]; omega
        have HQ := Lib.hid (show rowsTo s wn (q + 1) = acc ++ rwL s wn a e by rw [rowsTo_succ, HA.out, he, haq])
        have HN := Lib.hid (show q < nl s → lst s (q + 1) = e + 1 by intro h; rw [he]; exact (lst_next s q h).2)
        have HE := Lib.hid (show e ≤ 120 by omega)
        clear ht he haq ha HA hlen
        go_wp2_with fail
        go_loopw [5, 6, 10, 11] (fun out at_ t n wr' => ∃ (b : Nat) (bcc : List (Nat × Nat)) (OA2 : Option Addr) (OC2 : Nat), out = .slice OA2 bcc.length OC2 ∧ at_ = .int .i64 b ∧ a ≤ b ∧ b ≤ e ∧ bcc.length ≤ b ∧ Hid (acc ++ rwL s wn a e = bcc ++ rwL s wn b e) ∧ Hid (OwnR wr' B0 (.slice OA2 bcc.length OC2) bcc) ∧ Hid (Below w1.heap.size w1 wr')) (fun _ at_ _ _ _ => e - (intOf at_).toNat)
        case atStart => exact ⟨a, acc, OA, OC, rfl, rfl, Nat.le_refl _, hle.1, hac, Lib.hid rfl, HO, HB⟩
        case round =>
          obtain ⟨b, bcc, OA2, OC2, rfl, rfl, hab, hbe, hbc, HQ2, HO2, HB2⟩ := hrel
          clear HO HB hc
          have he120 := HE.out
          have hs2 := HB2.out.size
          by_cases hgt : wn < e - b
          · have j1 : (wn : Int) < (e : Int) - (b : Int) := by omega
            have j2 : IntKind.i64.wrap ((e : Int) - (b : Int)) = (e : Int) - (b : Int) := IntWalk.i64_in _ (by omega)
            have j3 : IntKind.i64.wrap ((b : Int) + (wn : Int)) = ((b + wn : Nat) : Int) := by rw [IntWalk.i64_in _ (by omega)]; omega
            have j4 : (0 : Int) ≤ (b : Int) := by omega
            have j5 : (b : Int) ≤ ((b + wn : Nat) : Int) := by omega
            have j6 : ((b + wn : Nat) : Int) ≤ (s.length : Int) := by omega
            have hcut : ((s.take (b + wn)).drop b) = (s.drop b).take wn := by rw [List.drop_take]; congr 1; omega
            have hcin := cutP_in s b (wd := wn) (by omega)
            have HQ3 := Lib.hid (show acc ++ rwL s wn a e = (bcc ++ [(b, cutP s wn b)]) ++ rwL s wn (cutP s wn b) e by rw [HQ2.out, rwL_step s (by omega) (by omega)]; simp)
            have LB := Lib.hid (fun w' => Tryd.strings_LastIndexByte ⟨((s.take (b + wn)).drop b).toArray⟩ 32 (by show ((s.take (b + wn)).drop b).length < _; rw [hcut, List.length_take]; omega) w')
            have hl := lsp_last ((s.drop b).take wn)
            rw [← hcut] at hl
            have hcp : cutP s wn b = b + if lsp ((s.take (b + wn)).drop b) = 0 then wn else lsp ((s.take (b + wn)).drop b) := by rw [hcut]; rfl
            obtain ⟨cp, hcp0⟩ : ∃ cp, cp = cutP s wn b := ⟨_, rfl⟩
            rw [← hcp0] at hcp hcin HQ3
            clear hcut HQ2 hcp0
            rcases hl with ⟨l1, l2⟩ | ⟨n, l1, l2⟩
            · rw [l2, if_pos rfl] at hcp
              subst hcp
              rw [l1] at LB
              clear l1 l2 hcin
              go_wp2_with fail
              refine (LB.out _).mono ?_
              rintro e2 w2 ⟨rfl, rfl⟩
              go_wp2_with (at_builtin; go_loud (
                     refine wpList_append_own _ rfl _ _ 57 rfl B0 60 i0 (.agg #[.int .i64 0, .int .i64 0]) 2 16 Tryd.underlying57 hi0 hz0 hz1 hz2 rfl (by decide) _ _ _ rfl (HO2.out.alloc _) ⟨w2.heap.size, 0, none⟩ 1 1 [.int .i64 (b : Int), .int .i64 ((b + wn : Nat) : Int)] rfl rfl (cells_new _ _ _) (by intro u hu; simp at hu; rcases hu with rfl | rfl <;> rfl) (by unfold maxLen; omega) (by omega) (by first | omega | (simp; done) | (simp; omega)) ?_
                     intro v9 w9 how hgr _
                     obtain ⟨ncc, hncc, hnl9, HO9⟩ : ∃ ncc : List (Nat × Nat), Hid (ncc = bcc ++ [(b, b + wn)]) ∧ ncc.length ≤ bcc.length + 1 ∧ Hid (OwnR w9 B0 v9 ncc) := ⟨bcc ++ [(b, b + wn)], Lib.hid rfl, by simp, Lib.hid (own_rows (by simpa [rowC] using how) (by simp))⟩
                     obtain ⟨A9, c9, rfl, -, -⟩ := (RdL.of_own (f := rowC) (bs := ncc) HO9.out).form
                     have HB9 := Lib.hid (up_own_grown (up_alloc HB2.out _) (HO2.out.alloc _) hgr (by omega))
                     clear how hgr))
              go_roundw
              case rel => exact ⟨b + wn, ncc, A9, c9, rfl, rfl, by omega, by omega, by omega, by rw [hncc.out]; exact HQ3, HO9, HB9⟩
              case measure => simp [intOf]; omega
            · rw [l2, if_neg (by omega)] at hcp
              rw [l1] at LB
              have k0 : (0 : Int) ≤ (n : Int) := by omega
              have k2 : IntKind.i64.wrap ((b : Int) + (n : Int)) = (b : Int) + (n : Int) := IntWalk.i64_in _ (by omega)
              have k3 : IntKind.i64.wrap ((b : Int) + (n : Int) + 1) = (cp : Int) := by rw [IntWalk.i64_in _ (by omega)]; omega
              clear l1 l2 hcp
              go_wp2_with fail
              refine (LB.out _).mono ?_
              rintro e2 w2 ⟨rfl, rfl⟩
              go_wp2_with (at_builtin; go_loud (
                     refine wpList_append_own _ rfl _ _ 57 rfl B0 60 i0 (.agg #[.int .i64 0, .int .i64 0]) 2 16 Tryd.underlying57 hi0 hz0 hz1 hz2 rfl (by decide) _ _ _ rfl (HO2.out.alloc _) ⟨w2.heap.size, 0, none⟩ 1 1 [.int .i64 (b : Int), .int .i64 (cp : Int)] rfl rfl (cells_new _ _ _) (by intro u hu; simp at hu; rcases hu with rfl | rfl <;> rfl) (by unfold maxLen; omega) (by omega) (by first | omega | (simp; done) | (simp; omega)) ?_
                     intro v9 w9 how hgr _
                     obtain ⟨ncc, hncc, hnl9, HO9⟩ : ∃ ncc : List (Nat × Nat), Hid (ncc = bcc ++ [(b, cp)]) ∧ ncc.length ≤ bcc.length + 1 ∧ Hid (OwnR w9 B0 v9 ncc) := ⟨bcc ++ [(b, cp)], Lib.hid rfl, by simp, Lib.hid (own_rows (by simpa [rowC] using how) (by simp))⟩
                     obtain ⟨A9, c9, rfl, -, -⟩ := (RdL.of_own (f := rowC) (bs := ncc) HO9.out).form
                     have HB9 := Lib.hid (up_own_grown (up_alloc HB2.out _) (HO2.out.alloc _) hgr (by omega))
                     clear how hgr))
              go_roundw
              case rel => exact ⟨cp, ncc, A9, c9, rfl, rfl, by omega, by omega, by omega, by rw [hncc.out]; exact HQ3, HO9, HB9⟩
              case measure => simp [intOf]; omega
          · have j1 : ¬ (wn : Int) < (e : Int) - (b : Int) := by omega
            have j2 : IntKind.i64.wrap ((e : Int) - (b : Int)) = (e : Int) - (b : Int) := IntWalk.i64_in _ (by omega)
            have j3 : IntKind.i64.wrap ((e : Int) + 1) = ((e + 1 : Nat) : Int) := by rw [IntWalk.i64_in _ (by omega)]; omega
            have HQ3 := Lib.hid (show rowsTo s wn (q + 1) = bcc ++ [(b, e)] by rw [HQ.out, HQ2.out, rwL_stop s (by omega)])
            clear HQ2 HQ
            go_wp2_with (at_builtin; go_loud (
                     refine wpList_append_own _ rfl _ _ 57 rfl B0 60 i0 (.agg #[.int .i64 0, .int .i64 0]) 2 16 Tryd.underlying57 hi0 hz0 hz1 hz2 rfl (by decide) _ _ _ rfl (HO2.out.alloc _) ⟨wr.heap.size, 0, none⟩ 1 1 [.int .i64 (b : Int), .int .i64 (e : Int)] rfl rfl (cells_new _ _ _) (by intro u hu; simp at hu; rcases hu with rfl | rfl <;> rfl) (by unfold maxLen; omega) (by omega) (by first | omega | (simp; done) | (simp; omega)) ?_
                     intro v9 w9 how hgr _
                     obtain ⟨ncc, hncc, hnl9, HO9⟩ : ∃ ncc : List (Nat × Nat), Hid (ncc = bcc ++ [(b, e)]) ∧ ncc.length ≤ bcc.length + 1 ∧ Hid (OwnR w9 B0 v9 ncc) := ⟨bcc ++ [(b, e)], Lib.hid rfl, by simp, Lib.hid (own_rows (by simpa [rowC] using how) (by simp))⟩
                     obtain ⟨A9, c9, rfl, -, -⟩ := (RdL.of_own (f := rowC) (bs := ncc) HO9.out).form
                     have HB9 := Lib.hid (up_own_grown (up_alloc HB2.out _) (HO2.out.alloc _) hgr (by omega))
                     clear how hgr))
            go_roundw
            case rel => exact ⟨q + 1, e + 1, ncc, A9, c9, by omega, by go_num, rfl, rfl, fun h => (HN.out (by omega)).symm, by omega, by omega, by rw [hncc.out]; exact Lib.hid HQ3.out.symm, HO9, HB9⟩
            case measure => simp [intOf]; omega
      · obtain rfl : q = nl s + 1 := by omega
        have HA2 := HA
        go_wp2_with fail
        go_ret
        refine ⟨_, rfl, ?_, up_trans HW.out HB.out⟩
        rw [← HA2.out]
        exact own_base HO.out hwB

end Go.Proofs.YtcjgllbhmghkeaaDoor
