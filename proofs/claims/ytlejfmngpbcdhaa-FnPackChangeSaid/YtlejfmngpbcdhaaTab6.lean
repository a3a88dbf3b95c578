/- What is proved here: the contract of the program's between: the pieces between two places. No condition. -/
import Derived.Test.YtlejfmngpbcdhaaTab5
import Derived.Test.YtlejfmngpbcdhaaAppG
import Derived.Deep.Cut
import Derived.Deep.CutRange
namespace Go.Proofs.Ytlejfmngpbcdhaa
open Go.RowKit
set_option linter.unusedVariables false

theorem len_sum {ps : List Pc} (h : ∀ p ∈ ps, 1 ≤ p.sz) : (ps.length : Int) ≤ psSum ps := by
  induction ps with
  | nil => simp [psSum]
  | cons p l ih =>
    have := h p (List.mem_cons_self ..)
    have := ih fun q hq => h q (List.mem_cons_of_mem _ hq)
    rw [List.length_cons]
    unfold psSum
    omega
/-- a row of pieces of the call's own. -/
abbrev OwnP (w : World) (base : Nat) (v : Value) (ps : List Pc) : Prop := Own w base 79 3 v ps.length (ps.flatMap pcC)
def BtwPost (ps : List Pc) (w : World) (e : Ending) (w' : World) : Prop := ∃ u, e = .returned u ∧ OwnP w' w.heap.size u ps ∧ Below w.heap.size w w'
theorem ret_i {a b : Int} (h : a = b) : Value.int .i64 a = .int .i64 b := by rw [h]
theorem btw_drop (lo hi t : Int) (ps : List Pc) (k : Nat) (hk : k < ps.length) : btw lo hi t (ps.drop k) = (if max lo t < min hi (t + ps[k].sz) then [⟨ps[k].ad, ps[k].st + max lo t - t, min hi (t + ps[k].sz) - max lo t⟩] else []) ++ btw lo hi (t + ps[k].sz) (ps.drop (k + 1)) := by
  rw [List.drop_eq_getElem_cons hk, btw]
theorem psSum_drop (ps : List Pc) (k : Nat) (hk : k < ps.length) : psSum (ps.drop k) = ps[k].sz + psSum (ps.drop (k + 1)) := by
  rw [List.drop_eq_getElem_cons hk, psSum]

set_option maxRecDepth 100000 in
set_option maxHeartbeats 4000000 in
theorem implBetween_any (f m : List UInt8) (v : Value) (ps : List Pc) (lo hi : Int) (w : World) (h : RdP w v ps) (hp : ∀ p ∈ ps, pcOk f m p = true) (hs : psSum ps ≤ 120) (hf : f.length ≤ 1048576) (hm : m.length ≤ 1048576) (hlo : 0 ≤ lo ∧ lo ≤ 1000) (hhi : 0 ≤ hi ∧ hi ≤ 1000) :
    Calls Try.prog 60 #[tbAgg f m v, .int .i64 lo, .int .i64 hi] w (BtwPost (btw lo hi 0 ps) w) := by
  obtain ⟨A, c, rfl, hpl, _⟩ := h.form
  obtain ⟨i0, hi0, hz0, hz1, hz2⟩ := info_parts piece_info
  unfold maxLen at hpl
  unfold tbAgg
  have H := Lib.hid h
  have PS := Lib.hid hp
  have hcount : (ps.length : Int) ≤ 120 := by have := len_sum (fun p hp' => (pcOk_in (hp p hp')).2.1); omega
  clear h hp
  go_enter Try.func60, Try.ntmps60
  go_upto_region 1 with (fail)
  obtain ⟨w1, hw1⟩ : ∃ z, z = w.alloc (.cells #[S f, S m, .slice A ps.length c] 48) := ⟨_, rfl⟩
  have hb : Below (w.alloc (.cells #[S f, S m, .slice A ps.length c] 48)).heap.size (w.alloc (.cells #[S f, S m, .slice A ps.length c] 48)) w1 := by rw [hw1]; exact Below.refl _ _
  rw [← hw1]
  have tc : ∀ o, w1.cell? ⟨w.heap.size, o, none⟩ = #[S f, S m, .slice A ps.length c][o]? := (fun o => (hb.cell (p := ⟨w.heap.size, o, none⟩) (by simp <;> omega)).trans (by simp [go_sem])); have tf : ∀ o, w1.frozen? ⟨w.heap.size, o, none⟩ = false := (fun o => (hb.frozen (p := ⟨w.heap.size, o, none⟩) (by simp <;> omega)).trans (by simp [go_sem])); have tz : w.heap.size < w1.heap.size := (by have := hb.size; (try simp at this); omega); have ty := tz
  have hW : Below w.heap.size w w1 := by (repeat (first | exact Below.refl _ _ | assumption | refine Below.drew ?_ | refine up_drewN ?_ _ | refine up_alloc ?_ _ | refine up_set ?_ _ _ (by first | exact Nat.le_refl _ | (simp; done) | (simp; omega) | omega) | refine up_trans ?_ (by assumption)))
  have sz1 : w1.heap.size = w.heap.size + 1 := by rw [hw1]; simp
  have SZ := Lib.hid sz1
  clear hb hw1 sz1
  go_wp2_with fail
  go_loopw [7, 8, 10, 11, 12, 16] (fun out at_ p lw hg i wr => ∃ (k : Nat) (tt : Int) (acc : List Pc) (OA : Option Addr) (OC : Nat), k ≤ ps.length ∧ out = .slice OA acc.length OC ∧ i = .int .i64 k ∧ at_ = .int .i64 tt ∧ 0 ≤ tt ∧ tt + psSum (ps.drop k) ≤ 120 ∧ acc.length ≤ k ∧ Hid (btw lo hi 0 ps = acc ++ btw lo hi tt (ps.drop k)) ∧ Hid (OwnP wr (w.heap.size + 1) (.slice OA acc.length OC) acc) ∧ Hid (Below w1.heap.size w1 wr)) (fun _ _ _ _ _ i _ => ps.length - (intOf i).toNat)
  case atStart => exact ⟨0, 0, [], none, 0, Nat.zero_le _, rfl, rfl, rfl, by omega, by simpa using hs, by simp, Lib.hid rfl, Lib.hid (World.ownsRow_nil _ _ _ _), Lib.hid (Below.refl _ _)⟩
  case round =>
    obtain ⟨k, tt, acc, OA, OC, hk, rfl, rfl, rfl, ht0, hts, hac, HQ, HO, HWr⟩ := hrel
    have tc2 := up_c HWr.out tz tc
    have swr := HWr.out.size
    have hW2 := up_trans hW HWr.out
    by_cases hlt : k < ps.length
    · have i1 : (0 : Int) ≤ (k : Int) := by omega
      have i2 : (k : Int) < (ps.length : Int) := by omega
      have hd := btw_drop lo hi tt ps k hlt
      have hsd := psSum_drop ps k hlt
      have hn := psSum_nn (ps := ps.drop (k + 1)) (fun q hq => (pcOk_in (PS.out q (List.mem_of_mem_drop hq))).2.1)
      obtain ⟨b, o, rfl, hbz, c0, c1, c2⟩ := rdP_cells (H.out.up hW2) hlt
      have hin := pcOk_in (PS.out _ (List.getElem_mem hlt))
      have hrm : rmT f m ps[k] ≤ 1048576 := by unfold rmT; split <;> omega
      obtain ⟨x, hx⟩ : ∃ x, x = ps[k] := ⟨_, rfl⟩
      rw [← hx] at c0 c1 c2 hd hsd hin hrm
      clear hx
      obtain ⟨ad, st, sz⟩ := x
      simp only at c0 c1 c2 hd hsd hin hrm
      have hst : 0 ≤ st ∧ st ≤ 1048576 ∧ 1 ≤ sz ∧ tt + sz ≤ 120 := by omega
      have tz2 : w.heap.size < wr.heap.size := by omega
      have tn1 : ¬ wr.heap.size = w.heap.size := by omega
      have tn2 : ¬ w.heap.size = wr.heap.size := by omega
      clear hin hrm
      have hadd : IntKind.i64.wrap (tt + sz) = tt + sz := IntWalk.i64_in _ (by omega)
      go_upto_region 6 with (fail)
      obtain ⟨w2, hw2⟩ : ∃ z, z = wr.alloc (.cells #[.bool ad, .int .i64 st, .int .i64 sz] 79) := ⟨_, rfl⟩
      have hb : Below (wr.alloc (.cells #[.bool ad, .int .i64 st, .int .i64 sz] 79)).heap.size (wr.alloc (.cells #[.bool ad, .int .i64 st, .int .i64 sz] 79)) w2 := by rw [hw2]; exact Below.refl _ _
      rw [← hw2]
      have pc : ∀ o, w2.cell? ⟨wr.heap.size, o, none⟩ = #[.bool ad, .int .i64 st, .int .i64 sz][o]? := (fun o => (hb.cell (p := ⟨wr.heap.size, o, none⟩) (by simp <;> omega)).trans (by simp [go_sem])); have pf : ∀ o, w2.frozen? ⟨wr.heap.size, o, none⟩ = false := (fun o => (hb.frozen (p := ⟨wr.heap.size, o, none⟩) (by simp <;> omega)).trans (by simp [go_sem])); have pz : wr.heap.size < w2.heap.size := (by have := hb.size; (try simp at this); omega); have py := pz
      have hBw : Below wr.heap.size wr w2 := by (repeat (first | exact Below.refl _ _ | assumption | refine Below.drew ?_ | refine up_drewN ?_ _ | refine up_alloc ?_ _ | refine up_set ?_ _ _ (by first | exact Nat.le_refl _ | (simp; done) | (simp; omega) | omega) | refine up_trans ?_ (by assumption)))
      have HO2 : Hid (OwnP w2 (w.heap.size + 1) (.slice OA acc.length OC) acc) := Lib.hid (own_up HO.out hBw)
      have HW2 := Lib.hid (up_trans HWr.out hBw)
      have sw2 := hBw.size
      have hnp : (Value.slice OA acc.length OC).ownBlock ≠ some wr.heap.size := fun e => by have := (HO.out.lt _ e).2; omega
      clear hb hw2 hBw c0 c1 c2 tc2 HO HWr tf tn1 tn2
      obtain ⟨L, hL⟩ : ∃ L : Int, L = max lo tt := ⟨_, rfl⟩
      obtain ⟨M, hM⟩ : ∃ M : Int, M = min hi (tt + sz) := ⟨_, rfl⟩
      rw [← hL, ← hM] at hd
      go_cut [11, 12] from 20 to 29 (fun a b wx => a = .int .i64 L ∧ b = .int .i64 M ∧ Hid (Below w2.heap.size w2 wx))
      case first =>
        by_cases m1 : tt < lo <;> by_cases m2 : lo < tt <;> by_cases m3 : hi < tt + sz <;> by_cases m4 : tt + sz < hi
        all_goals first
          | omega
          | (go_region
             all_goals
               go_wp2_with fail
               go_meet
               exact ⟨ret_i (by omega), ret_i (by omega), Lib.hid (by (repeat (first | exact Below.refl _ _ | assumption | refine Below.drew ?_ | refine up_drewN ?_ _ | refine up_alloc ?_ _ | refine up_set ?_ _ _ (by first | exact Nat.le_refl _ | (simp; done) | (simp; omega) | omega) | refine up_trans ?_ (by assumption))))⟩)
      case rest =>
      obtain ⟨rfl, rfl, HC⟩ := hcut
      obtain ⟨w3, rfl⟩ : ∃ z, z = wc := ⟨_, rfl⟩
      have pc3 := up_c HC.out pz pc
      have pz3 := Nat.lt_of_lt_of_le pz HC.out.size
      have HO3 := Lib.hid (own_up HO2.out HC.out)
      have HW3 := Lib.hid (up_trans HW2.out HC.out)
      have sw3 := HC.out.size
      have hLM0 : 0 ≤ L ∧ L ≤ 1000 ∧ M ≤ 1000 := by omega
      have hs1 : IntKind.i64.wrap (st + L) = st + L := IntWalk.i64_in _ (by omega)
      have hs2 : IntKind.i64.wrap (st + L - tt) = st + L - tt := IntWalk.i64_in _ (by omega)
      have hnext : tt + sz + psSum (ps.drop (k + 1)) ≤ 120 := by omega
      clear HC HO2 HW2 pc pf pz py
      by_cases hLM : L < M
      · rw [if_pos hLM] at hd
        have hs3 : IntKind.i64.wrap (M - L) = M - L := IntWalk.i64_in _ (by omega)
        have HQ2 := Lib.hid (show btw lo hi 0 ps = (acc ++ [⟨ad, st + L - tt, M - L⟩]) ++ btw lo hi (tt + sz) (ps.drop (k + 1)) by rw [HQ.out, hd, List.append_assoc])
        clear hd hL hM HQ hsd
        go_wp2_with (at_builtin
                     refine wpList_append_own _ rfl _ _ 46 rfl (w.heap.size + 1) 79 i0 (.agg #[.bool false, .int .i64 0, .int .i64 0]) 3 24 Try.underlying46 hi0 hz0 hz1 hz2 rfl (by decide) _ _ _ rfl (HO3.out.alloc _) ⟨w3.heap.size, 0, none⟩ 1 1 [.bool ad, .int .i64 (st + L - tt), .int .i64 (M - L)] rfl rfl (cells_new _ _ _) (by intro u hu; simp at hu; rcases hu with rfl | rfl | rfl <;> rfl) (by unfold maxLen; omega) (by omega) (by simp; omega) ?_
                     intro v1 w4 how1 hgr1 _
                     have how2 : OwnP w4 (w.heap.size + 1) v1 (acc ++ [⟨ad, st + L - tt, M - L⟩]) := by
                       have e : (acc ++ [(⟨ad, st + L - tt, M - L⟩ : Pc)]).flatMap pcC = acc.flatMap pcC ++ [.bool ad, .int .i64 (st + L - tt), .int .i64 (M - L)] := by rw [List.flatMap_append]; simp [pcC]
                       rw [OwnP, e, List.length_append]
                       exact how1
                     have pc4 : ∀ o, w4.cell? ⟨wr.heap.size, o, none⟩ = #[.bool ad, .int .i64 st, .int .i64 sz][o]? := fun o => (World.cell?_of_block (a := ⟨wr.heap.size, o, none⟩) (hgr1.block _ (by simp; omega) (fun e => hnp e.symm))).trans ((World.cell?_alloc_lt w3 _ ⟨wr.heap.size, o, none⟩ pz3).trans (pc3 o))
                     have HW4 := Lib.hid (up_grown (up_alloc HW3.out _) hgr1 (fun g hg => by have := (HO3.out.lt g hg).1; have := SZ.out; omega))
                     obtain ⟨OA2, OC2, rfl, -, -⟩ := (RdL.of_own (f := pcC) (bs := acc ++ [⟨ad, st + L - tt, M - L⟩]) how2).form
                     have HO4 := Lib.hid how2
                     have hac2 : (acc ++ [(⟨ad, st + L - tt, M - L⟩ : Pc)]).length ≤ k + 1 := by simp; omega
                     clear how1 how2 hgr1 HO3 HW3 pc3)
        go_roundw
        case rel => exact ⟨k + 1, tt + sz, acc ++ [⟨ad, st + L - tt, M - L⟩], OA2, OC2, by omega, by simp, by go_num, rfl, by omega, hnext, hac2, HQ2, HO4, HW4⟩
        case measure => simp [intOf]; omega
      · rw [if_neg hLM, List.nil_append] at hd
        have HQ2 := Lib.hid (show btw lo hi 0 ps = acc ++ btw lo hi (tt + sz) (ps.drop (k + 1)) by rw [HQ.out, hd])
        clear hd hL hM HQ hsd
        go_wp2_with fail
        go_roundw
        case rel => exact ⟨k + 1, tt + sz, acc, OA, OC, by omega, rfl, by go_num, rfl, by omega, hnext, by omega, HQ2, HO3, HW3⟩
        case measure => simp [intOf]; omega
    · obtain rfl : k = ps.length := by omega
      have hfin := HQ.out
      rw [List.drop_length] at hfin
      have hfin2 : btw lo hi 0 ps = acc := by rw [hfin]; simp [btw]
      have HF := Lib.hid hfin2
      have HO2 := HO
      clear hfin hfin2 HQ
      go_wp2_with fail
      go_ret
      refine ⟨_, rfl, ?_, hW2⟩
      rw [HF.out]
      exact own_base HO2.out (by omega)

end Go.Proofs.Ytlejfmngpbcdhaa
