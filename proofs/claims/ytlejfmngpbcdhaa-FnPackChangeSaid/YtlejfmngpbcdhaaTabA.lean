/- What is proved here: the contract of the reference's l3Cut: the pieces of the first bytes, and of the others. No condition. -/
import Derived.Test.YtlejfmngpbcdhaaTab9
import Derived.Deep.Cut
import Derived.Deep.CutRange
namespace Go.Proofs.Ytlejfmngpbcdhaa
open Go.RowKit
set_option linter.unusedVariables false

def PcB (p : Pc) : Prop := 1 ≤ p.sz ∧ 0 ≤ p.st ∧ p.st + p.sz ≤ 1048576
def DJ (a b : Value) : Prop := ∀ g, a.ownBlock = some g → b.ownBlock ≠ some g
theorem DJ.symm {a b : Value} (h : DJ a b) : DJ b a := fun g hb ha => h g ha hb
/-- a call that returns two rows of pieces of its own, in different blocks. -/
def CutPost (ax bs : List Pc) (w : World) (e : Ending) (w' : World) : Prop := ∃ u v, e = .returned (.tuple #[u, v]) ∧ OwnP w' w.heap.size u ax ∧ OwnP w' w.heap.size v bs ∧ DJ u v ∧ Below w.heap.size w w'

theorem cutA_drop (t : Int) (ps : List Pc) (k : Nat) (hk : k < ps.length) : cutA t (ps.drop k) = (if 0 < cutN t ps[k] then [⟨ps[k].ad, ps[k].st, cutN t ps[k]⟩] else []) ++ cutA (t - ps[k].sz) (ps.drop (k + 1)) := by
  rw [List.drop_eq_getElem_cons hk, cutA]
theorem cutB_drop (t : Int) (ps : List Pc) (k : Nat) (hk : k < ps.length) : cutB t (ps.drop k) = (if cutN t ps[k] < ps[k].sz then [⟨ps[k].ad, ps[k].st + cutN t ps[k], ps[k].sz - cutN t ps[k]⟩] else []) ++ cutB (t - ps[k].sz) (ps.drop (k + 1)) := by
  rw [List.drop_eq_getElem_cons hk, cutB]

/-- what an append of one piece to one of two rows leaves. -/
theorem push_one {w3 w4 : World} {B : Nat} {vA vB v1 : Value} {acc bcc : List Pc} {x : Pc} {z : Obj} (HA : OwnP w3 B vA acc) (HB : OwnP w3 B vB bcc) (hd : DJ vA vB)
    (how : Own w4 B 79 3 v1 (acc.length + 1) (acc.flatMap pcC ++ [.bool x.ad, .int .i64 x.st, .int .i64 x.sz])) (hgr : (w3.alloc z).grownBy w4 vA.ownBlock) (hob : v1.ownBlock = vA.ownBlock ∨ v1.ownBlock = some (w3.alloc z).heap.size) :
    ∃ OA OC, v1 = .slice OA (acc ++ [x]).length OC ∧ OwnP w4 B (.slice OA (acc ++ [x]).length OC) (acc ++ [x]) ∧ OwnP w4 B vB bcc ∧ DJ (.slice OA (acc ++ [x]).length OC) vB := by
  have e : (acc ++ [x]).flatMap pcC = acc.flatMap pcC ++ [.bool x.ad, .int .i64 x.st, .int .i64 x.sz] := by rw [List.flatMap_append]; simp [pcC]
  have how2 : OwnP w4 B v1 (acc ++ [x]) := by
    rw [OwnP, e, List.length_append]
    exact how
  obtain ⟨OA, OC, rfl, -, -⟩ := (RdL.of_own (f := pcC) (bs := acc ++ [x]) how2).form
  refine ⟨OA, OC, rfl, how2, ?_, ?_⟩
  · refine (HB.alloc z).kept hgr ?_
    cases hb : vB.ownBlock with
    | none => exact .inl rfl
    | some g => exact .inr fun e2 => hd g e2.symm hb
  · intro g hg hb
    rcases hob with h | h
    · exact hd g (h.symm.trans hg) hb
    · have h1 := (HB.lt g hb).2
      have h2 := Option.some.inj (h.symm.trans hg)
      have : (w3.alloc z).heap.size = w3.heap.size + 1 := by simp
      omega

set_option maxRecDepth 100000 in
set_option maxHeartbeats 4000000 in
theorem l3Cut_any (v : Value) (ps : List Pc) (x : Int) (w : World) (h : RdP w v ps) (hp : ∀ p ∈ ps, PcB p) (hs : psSum ps ≤ 120) (hx : 0 ≤ x ∧ x ≤ 1000) :
    Calls Try.prog 55 #[v, .int .i64 x] w (CutPost (cutA x ps) (cutB x ps) w) := by
  obtain ⟨A, c, rfl, hpl, _⟩ := h.form
  obtain ⟨i0, hi0, hz0, hz1, hz2⟩ := info_parts piece_info
  unfold maxLen at hpl
  have H := Lib.hid h
  have PS := Lib.hid hp
  have hcount : (ps.length : Int) ≤ 120 := by have := len_sum (fun p hp' => (hp p hp').1); omega
  clear h hp
  go_enter Try.func55, Try.ntmps55
  go_wp2_with fail
  go_loopw [1, 6, 7, 8, 9, 10] (fun at_ a b i p n wr => ∃ (k : Nat) (tt : Int) (acc bcc : List Pc) (OA OB : Option Addr) (CA CB : Nat), k ≤ ps.length ∧ a = .slice OA acc.length CA ∧ b = .slice OB bcc.length CB ∧ i = .int .i64 k ∧ at_ = .int .i64 tt ∧ tt ≤ 1000 ∧ psSum (ps.drop k) ≤ tt + 120 ∧ psSum (ps.drop k) ≤ 120 ∧ acc.length ≤ k ∧ bcc.length ≤ k ∧ Hid (cutA x ps = acc ++ cutA tt (ps.drop k)) ∧ Hid (cutB x ps = bcc ++ cutB tt (ps.drop k)) ∧ Hid (OwnP wr w.heap.size (.slice OA acc.length CA) acc) ∧ Hid (OwnP wr w.heap.size (.slice OB bcc.length CB) bcc) ∧ Hid (DJ (.slice OA acc.length CA) (.slice OB bcc.length CB)) ∧ Hid (Below w.heap.size w wr)) (fun _ _ _ i _ _ _ => ps.length - (intOf i).toNat)
  case atStart =>
    refine ⟨0, x, [], [], some ⟨w.heap.size, 0, none⟩, some ⟨w.heap.size + 1, 0, none⟩, 0, 0, Nat.zero_le _, rfl, ?_, rfl, rfl, by omega, by simpa using (by omega), by simpa using hs, by simp, by simp, Lib.hid rfl, Lib.hid rfl, Lib.hid ((piece_empty w w.heap.size (Nat.le_refl _)).alloc _), Lib.hid ?_, Lib.hid ?_, Lib.hid (by (repeat (first | exact Below.refl _ _ | assumption | refine Below.drew ?_ | refine up_drewN ?_ _ | refine up_alloc ?_ _ | refine up_set ?_ _ _ (by first | exact Nat.le_refl _ | (simp; done) | (simp; omega) | omega) | refine up_trans ?_ (by assumption))))⟩
    · simp
    · have := piece_empty (w.alloc (.cells #[] 79)) w.heap.size (by simp)
      rw [show (w.alloc (.cells #[] 79)).heap.size = w.heap.size + 1 by simp] at this
      exact this
    · intro g hg hb
      simp [Value.ownBlock] at hg hb
      omega
  case round =>
    obtain ⟨k, tt, acc, bcc, OA, OB, CA, CB, hk, rfl, rfl, rfl, rfl, ht0, hts, hs1, hac, hbc, HQA, HQB, HA, HB, HD, HWr⟩ := hrel
    by_cases hlt : k < ps.length
    · have i1 : (0 : Int) ≤ (k : Int) := by omega
      have i2 : (k : Int) < (ps.length : Int) := by omega
      have hda := cutA_drop tt ps k hlt
      have hdb := cutB_drop tt ps k hlt
      have hsd := psSum_drop ps k hlt
      have hn := psSum_nn (ps := ps.drop (k + 1)) (fun q hq => (PS.out q (List.mem_of_mem_drop hq)).1)
      obtain ⟨b, o, rfl, hbz, c0, c1, c2⟩ := rdP_cells (H.out.up HWr.out) hlt
      have hin : PcB ps[k] := PS.out _ (List.getElem_mem hlt)
      unfold PcB at hin
      obtain ⟨y, hy⟩ : ∃ y, y = ps[k] := ⟨_, rfl⟩
      rw [← hy] at c0 c1 c2 hda hdb hsd hin
      clear hy
      obtain ⟨ad, st, sz⟩ := y
      simp only at c0 c1 c2 hda hdb hsd hin
      have hst : 0 ≤ st ∧ st + sz ≤ 1048576 ∧ 1 ≤ sz ∧ sz ≤ 120 := by omega
      go_upto_region 7 with (fail)
      obtain ⟨w2, hw2⟩ : ∃ z, z = wr.alloc (.cells #[.bool ad, .int .i64 st, .int .i64 sz] 79) := ⟨_, rfl⟩
      have hb : Below (wr.alloc (.cells #[.bool ad, .int .i64 st, .int .i64 sz] 79)).heap.size (wr.alloc (.cells #[.bool ad, .int .i64 st, .int .i64 sz] 79)) w2 := by rw [hw2]; exact Below.refl _ _
      rw [← hw2]
      have pc : ∀ o, w2.cell? ⟨wr.heap.size, o, none⟩ = #[.bool ad, .int .i64 st, .int .i64 sz][o]? := (fun o => (hb.cell (p := ⟨wr.heap.size, o, none⟩) (by simp <;> omega)).trans (by simp [go_sem])); have pf : ∀ o, w2.frozen? ⟨wr.heap.size, o, none⟩ = false := (fun o => (hb.frozen (p := ⟨wr.heap.size, o, none⟩) (by simp <;> omega)).trans (by simp [go_sem])); have pz : wr.heap.size < w2.heap.size := (by have := hb.size; (try simp at this); omega); have py := pz
      have hBw : Below wr.heap.size wr w2 := by (repeat (first | exact Below.refl _ _ | assumption | refine Below.drew ?_ | refine up_drewN ?_ _ | refine up_alloc ?_ _ | refine up_set ?_ _ _ (by first | exact Nat.le_refl _ | (simp; done) | (simp; omega) | omega) | refine up_trans ?_ (by assumption)))
      have NA := Lib.hid (show (Value.slice OA acc.length CA).ownBlock ≠ some wr.heap.size from fun e => by have := (HA.out.lt _ e).2; omega)
      have NB := Lib.hid (show (Value.slice OB bcc.length CB).ownBlock ≠ some wr.heap.size from fun e => by have := (HB.out.lt _ e).2; omega)
      replace HA := Lib.hid (own_up HA.out hBw)
      replace HB := Lib.hid (own_up HB.out hBw)
      replace HWr := Lib.hid (up_trans HWr.out hBw)
      clear hb hw2 hBw c0 c1 c2
      obtain ⟨N, hN⟩ : ∃ N : Int, N = max 0 (min sz tt) := ⟨_, rfl⟩
      rw [show cutN tt ⟨ad, st, sz⟩ = N from hN.symm] at hda hdb
      go_cut [10] from 23 to 28 (fun n wx => n = .int .i64 N ∧ Hid (Below w2.heap.size w2 wx))
      case first =>
        by_cases m1 : tt < sz <;> by_cases m2 : sz < tt <;> by_cases m3 : 0 < tt <;> by_cases m4 : tt < 0
        all_goals first
          | omega
          | (have m5 : 0 < sz := by omega
             have m6 : ¬ sz < 0 := by omega
             go_wp2_with fail
             go_meet
             exact ⟨ret_i (by omega), Lib.hid (by (repeat (first | exact Below.refl _ _ | assumption | refine Below.drew ?_ | refine up_drewN ?_ _ | refine up_alloc ?_ _ | refine up_set ?_ _ _ (by first | exact Nat.le_refl _ | (simp; done) | (simp; omega) | omega) | refine up_trans ?_ (by assumption))))⟩)
      case rest =>
      obtain ⟨rfl, HC⟩ := hcut
      obtain ⟨w3, rfl⟩ : ∃ z, z = wc := ⟨_, rfl⟩
      have pc3 := Lib.hid (up_c HC.out pz pc)
      have pz3 := Nat.lt_of_lt_of_le pz HC.out.size
      replace HA := Lib.hid (own_up HA.out HC.out)
      replace HB := Lib.hid (own_up HB.out HC.out)
      have HW3 := Lib.hid (up_trans HWr.out HC.out)
      have sw3 := HW3.out.size
      have hN0 : 0 ≤ N ∧ N ≤ sz ∧ N ≤ 120 := by omega
      have ha1 : IntKind.i64.wrap (st + N) = st + N := IntWalk.i64_in _ (by omega)
      have ha2 : IntKind.i64.wrap (sz - N) = sz - N := IntWalk.i64_in _ (by omega)
      have ha3 : IntKind.i64.wrap (tt - sz) = tt - sz := IntWalk.i64_in _ (by omega)
      have hnext : psSum (ps.drop (k + 1)) ≤ tt - sz + 120 ∧ psSum (ps.drop (k + 1)) ≤ 120 := by omega
      clear HC HWr pc pf pz py hsd hN hts hs1
      go_upto_if 29 with (fail)
      go_cut [6, 29] from 30 to 39 (fun a t29 wx => ∃ (ac2 : List Pc) (O2 : Option Addr) (C2 : Nat), a = .slice O2 ac2.length C2 ∧ ac2.length ≤ k + 1 ∧ Hid (cutA x ps = ac2 ++ cutA (tt - sz) (ps.drop (k + 1))) ∧ Hid (OwnP wx w.heap.size (.slice O2 ac2.length C2) ac2) ∧ Hid (OwnP wx w.heap.size (.slice OB bcc.length CB) bcc) ∧ Hid (DJ (.slice O2 ac2.length C2) (.slice OB bcc.length CB)) ∧ Hid (Below w.heap.size w wx) ∧ wr.heap.size < wx.heap.size ∧ Hid (∀ o, wx.cell? ⟨wr.heap.size, o, none⟩ = #[.bool ad, .int .i64 st, .int .i64 sz][o]?))
      case first =>
        by_cases hP : 0 < N
        · rw [if_pos hP] at hda
          have HQ2 := Lib.hid (show cutA x ps = (acc ++ [⟨ad, st, N⟩]) ++ cutA (tt - sz) (ps.drop (k + 1)) by rw [HQA.out, hda, List.append_assoc])
          clear hda hdb HQA HQB
          replace pc3 := pc3.out
          go_wp2_with (at_builtin
                       go_loud (
                       refine wpList_append_own_at _ rfl _ _ 46 rfl w.heap.size 79 i0 (.agg #[.bool false, .int .i64 0, .int .i64 0]) 3 24 Try.underlying46 hi0 hz0 hz1 hz2 rfl (by decide) _ _ _ rfl (HA.out.alloc _) ⟨w3.heap.size, 0, none⟩ 1 1 [.bool ad, .int .i64 st, .int .i64 N] rfl rfl (cells_new _ _ _) (by intro u hu; simp at hu; rcases hu with rfl | rfl | rfl <;> rfl) (by unfold maxLen; omega) (by omega) (by simp; omega) ?_
                       intro v1 w4 how1 hgr1 _ hob
                       obtain ⟨XA, XC, rfl, HN1, HN2, HN3⟩ := push_one (x := ⟨ad, st, N⟩) HA.out HB.out HD.out how1 hgr1 hob
                       have pc4 : ∀ o, w4.cell? ⟨wr.heap.size, o, none⟩ = #[.bool ad, .int .i64 st, .int .i64 sz][o]? := fun o => (World.cell?_of_block (a := ⟨wr.heap.size, o, none⟩) (hgr1.block _ (by simp; omega) (fun e => NA.out e.symm))).trans ((World.cell?_alloc_lt w3 _ ⟨wr.heap.size, o, none⟩ pz3).trans (pc3 o))
                       have HW4 := Lib.hid (up_grown (up_alloc HW3.out _) hgr1 (fun g hg => (HA.out.lt g hg).1))
                       have hl4 : (acc ++ [(⟨ad, st, N⟩ : Pc)]).length ≤ k + 1 := by simp; omega
                       have PC4 := Lib.hid pc4
                       replace HN1 := Lib.hid HN1
                       replace HN2 := Lib.hid HN2
                       replace HN3 := Lib.hid HN3
                       have hz4 : wr.heap.size < w4.heap.size := (by have := hgr1.size; simp at this; omega)
                       clear how1 hgr1 hob pc4 HA HB HW3 pc3))
          go_meet
          exact ⟨acc ++ [⟨ad, st, N⟩], XA, XC, by simp, hl4, HQ2, HN1, HN2, HN3, HW4, hz4, PC4⟩
        · rw [if_neg hP, List.nil_append] at hda
          have HQ2 := Lib.hid (show cutA x ps = acc ++ cutA (tt - sz) (ps.drop (k + 1)) by rw [HQA.out, hda])
          clear hda hdb HQA HQB
          go_wp2_with fail
          go_meet
          exact ⟨acc, OA, CA, rfl, by omega, HQ2, HA, HB, HD, HW3, pz3, pc3⟩
      case rest =>
      clear HA HB HD HW3 pc3 pz3 HQA hda NA
      obtain ⟨ac2, O2, C2, rfl, hac2, HQA, HA, HB, HD, HW3, pz3, pc3⟩ := hcut
      obtain ⟨w3, rfl⟩ : ∃ z, z = wc := ⟨_, rfl⟩
      have sw3 := HW3.out.size
      replace pc3 := pc3.out
      by_cases hP : N < sz
      · rw [if_pos hP] at hdb
        have HQ2 := Lib.hid (show cutB x ps = (bcc ++ [⟨ad, st + N, sz - N⟩]) ++ cutB (tt - sz) (ps.drop (k + 1)) by rw [HQB.out, hdb, List.append_assoc])
        clear hdb HQB
        go_wp2_with (at_builtin
                     go_loud (
                       refine wpList_append_own_at _ rfl _ _ 46 rfl w.heap.size 79 i0 (.agg #[.bool false, .int .i64 0, .int .i64 0]) 3 24 Try.underlying46 hi0 hz0 hz1 hz2 rfl (by decide) _ _ _ rfl (HB.out.alloc _) ⟨w3.heap.size, 0, none⟩ 1 1 [.bool ad, .int .i64 (st + N), .int .i64 (sz - N)] rfl rfl (cells_new _ _ _) (by intro u hu; simp at hu; rcases hu with rfl | rfl | rfl <;> rfl) (by unfold maxLen; omega) (by omega) (by simp; omega) ?_
                       intro v1 w4 how1 hgr1 _ hob
                       obtain ⟨XA, XC, rfl, HN1, HN2, HN3⟩ := push_one (x := ⟨ad, st + N, sz - N⟩) HB.out HA.out HD.out.symm how1 hgr1 hob
                       have pc4 : ∀ o, w4.cell? ⟨wr.heap.size, o, none⟩ = #[.bool ad, .int .i64 st, .int .i64 sz][o]? := fun o => (World.cell?_of_block (a := ⟨wr.heap.size, o, none⟩) (hgr1.block _ (by simp; omega) (fun e => NB.out e.symm))).trans ((World.cell?_alloc_lt w3 _ ⟨wr.heap.size, o, none⟩ pz3).trans (pc3 o))
                       have HW4 := Lib.hid (up_grown (up_alloc HW3.out _) hgr1 (fun g hg => (HB.out.lt g hg).1))
                       have hl4 : (bcc ++ [(⟨ad, st + N, sz - N⟩ : Pc)]).length ≤ k + 1 := by simp; omega
                       have PC4 := Lib.hid pc4
                       replace HN1 := Lib.hid HN1
                       replace HN2 := Lib.hid HN2
                       replace HN3 := Lib.hid HN3
                       have hz4 : wr.heap.size < w4.heap.size := (by have := hgr1.size; simp at this; omega)
                       clear how1 hgr1 hob HA HB HW3 pc3))
        go_roundw
        case rel => exact ⟨k + 1, tt - sz, ac2, bcc ++ [⟨ad, st + N, sz - N⟩], O2, XA, C2, XC, by omega, rfl, by simp, by go_num, rfl, by omega, hnext.1, hnext.2, hac2, hl4, HQA, HQ2, HN2, HN1, Lib.hid HN3.out.symm, HW4⟩
        case measure => simp [intOf]; omega
      · rw [if_neg hP, List.nil_append] at hdb
        have HQ2 := Lib.hid (show cutB x ps = bcc ++ cutB (tt - sz) (ps.drop (k + 1)) by rw [HQB.out, hdb])
        clear hdb HQB
        go_wp2_with fail
        go_roundw
        case rel => exact ⟨k + 1, tt - sz, ac2, bcc, O2, OB, C2, CB, by omega, rfl, rfl, by go_num, rfl, by omega, hnext.1, hnext.2, hac2, by omega, HQA, HQ2, HA, HB, HD, HW3⟩
        case measure => simp [intOf]; omega
    · obtain rfl : k = ps.length := by omega
      have hfa := HQA.out
      have hfb := HQB.out
      rw [List.drop_length] at hfa hfb
      have ea : cutA x ps = acc := by rw [hfa]; simp [cutA]
      have eb : cutB x ps = bcc := by rw [hfb]; simp [cutB]
      have EA := Lib.hid ea
      have EB := Lib.hid eb
      clear hfa hfb ea eb HQA HQB
      go_wp2_with fail
      go_ret2
      refine ⟨_, _, rfl, ?_, ?_, HD.out, HWr.out⟩
      · rw [EA.out]; exact HA.out
      · rw [EB.out]; exact HB.out

end Go.Proofs.Ytlejfmngpbcdhaa
