/- What is proved here: What is proved here: the contract of the program's ReadRecord: it gives the change that a text is the record of. Condition: what the library's variables hold. What is proved here: contracts of PlayRecords in the program and in the reference. Condition: what the library's variables hold. No condition. -/
import Derived.Test.YtbjlkdenkmbepaaGreatDoorRcC
import Derived.Test.YtbjlkdenkmbepaaGreatDoorRp6
namespace Go.Proofs.YtbjlkdenkmbepaaGreatDoor
open Go.RowKit
set_option linter.unusedVariables false

theorem bld_up2 {B b : Nat} {bs : List Value} {w w' : World} (h : Lib.IsBuilder 154 5 B b bs w) (hb : Below w.heap.size w w') : Lib.IsBuilder 154 5 B b bs w' := by
  have key : ∀ p, Lib.BuilderAt 154 5 B b p bs w → Lib.BuilderAt 154 5 B b p bs w' := fun p h => by
    obtain ⟨hB, v, hbk, hown, hne⟩ := h
    exact ⟨hB, v, by rw [hb.block b (Array.getElem?_eq_some_iff.1 hbk).1]; exact hbk, own_up hown hb, hne⟩
  rcases h with h | h
  · exact .inl (key _ h)
  · exact .inr (key _ h)
theorem bld_put {B b : Nat} {q : List UInt8} {x : UInt8} {c : Int} {w : World} (h : Lib.BuilderAt 154 5 B b (.pointer (some ⟨b, 0, none⟩)) (Lib.byteCells q ++ [.int .u8 c]) w) (hc : c = (x.toNat : Int)) : Lib.IsBuilder 154 5 B b (Lib.byteCells (q ++ [x])) w := by
  subst hc
  refine .inr ?_
  have e : Lib.byteCells (q ++ [x]) = Lib.byteCells q ++ [.int .u8 (x.toNat : Int)] := by simp [Lib.byteCells]
  rw [e]
  exact h
theorem bld_new (w : World) : Lib.IsBuilder 154 5 w.heap.size w.heap.size (Lib.byteCells []) (w.alloc (.cells #[.pointer none, .slice none 0 0] 154)) :=
  .inl ⟨Nat.le_refl _, .slice none 0 0, heap_alloc_new w _, World.ownsRow_nil _ _ _ _, by simp [Value.ownBlock]⟩
theorem wds_nil : (wds []).length = 1 := rfl

set_option maxRecDepth 100000 in
set_option maxHeartbeats 2000000 in
theorem implReadRecord_any (s : List UInt8) (w : World) (hs : s.length ≤ 1048576) (hL : LW w) :
    Calls Tryz.prog 125 #[S s] w fun e w' => e = .returned (.tuple #[chAgg (rdC s), .bool (rdB s)]) ∧ Below w.heap.size w w' := by
  obtain ⟨za, zc, zp, zb, hz1, hz2⟩ : ∃ za zc zp zb, rdC s = ⟨za, zc, zp⟩ ∧ rdB s = zb := ⟨(rdC s).a, (rdC s).c, (rdC s).p, _, rfl, rfl⟩
  have NO := Lib.hid (fun (h : rdM s = none) => (show (za = 0 ∧ zc = 0 ∧ zp = []) ∧ zb = false by
    have h1 := rd_no h
    rw [hz1, hz2] at h1
    have h2 := h1.1
    unfold c0 at h2
    injection h2 with h3 h4 h5
    exact ⟨⟨h3, h4, h5⟩, h1.2⟩))
  have YES := Lib.hid (fun (a b : Int) (p : List UInt8) (h : rdM s = some ⟨a, b, p⟩) => (show (za = a ∧ zc = b ∧ zp = p) ∧ zb = true by
    have h1 := rd_yes h
    rw [hz1, hz2] at h1
    have h2 := h1.1
    injection h2 with h3 h4 h5
    exact ⟨⟨h3, h4, h5⟩, h1.2⟩))
  rw [hz1, hz2]
  clear hz1 hz2
  unfold chAgg
  simp only
  have HW := Lib.hid hL
  have N1 := Lib.hid (wd_no1 (s := s))
  have N2 := Lib.hid (wd_no2 (s := s))
  have N3 := Lib.hid (wd_no3 (s := s))
  have hw : ∀ j, j < (wds s).length → ((wds s).getD j []).length ≤ s.length := fun j hj => by
    rw [List.getD_eq_getElem?_getD, List.getElem?_eq_getElem hj]
    exact wds_word (List.getElem_mem hj)
  have hn3 := wds_len s
  have hne : (wds s).length = 3 → s ≠ [] := fun h e => by rw [e, wds_nil] at h; cases h
  have SP := Lib.hid (fun w hw => splitN_any s w hw (by omega))
  unfold WdsPost at SP
  unfold wCh at N3
  obtain ⟨t0, ht0⟩ : ∃ t, t = (wds s).getD 0 [] := ⟨_, rfl⟩
  obtain ⟨t1, ht1⟩ : ∃ t, t = (wds s).getD 1 [] := ⟨_, rfl⟩
  obtain ⟨t2, ht2⟩ : ∃ t, t = (wds s).getD 2 [] := ⟨_, rfl⟩
  have SPc : ∀ (v : Nat) (w' : World), (∀ j, j < (wds s).length → w'.cell? ⟨v, j, none⟩ = some (S ((wds s).getD j []))) → (wds s).length = 3 → w'.cell? ⟨v, 0, none⟩ = some (S t0) ∧ w'.cell? ⟨v, 1, none⟩ = some (S t1) ∧ w'.cell? ⟨v, 2, none⟩ = some (S t2) := fun v w' h h3 => by
    rw [ht0, ht1, ht2]
    exact ⟨h 0 (by omega), h 1 (by omega), h 2 (by omega)⟩
  have hlt : (wds s).length = 3 → t0.length ≤ s.length ∧ t1.length ≤ s.length ∧ t2.length ≤ s.length := fun h3 => by
    rw [ht0, ht1, ht2]
    exact ⟨hw 0 (by omega), hw 1 (by omega), hw 2 (by omega)⟩
  rw [← ht2] at N2 N3
  rw [← ht0, ← ht1] at N3
  clear ht0 ht1 ht2 hw
  have HSP := Lib.hid SPc
  have HLT := Lib.hid hlt
  have HNE := Lib.hid hne
  clear SPc hlt hne
  generalize hn : (wds s).length = n at *
  clear hn
  go_enter Tryz.func125, Tryz.ntmps125
  go_wp2_with fail
  refine (SP.out _ (HW.out.up (up_alloc (Below.refl _ _) _)).mx).mono ?_
  rintro e w1 ⟨c, rfl, hv, hz1, hb⟩
  have sz0 : (w.alloc (.cells #[.int .i64 0, .int .i64 0, S []] 78)).heap.size = w.heap.size + 1 := by simp
  have hv1 : ∀ j, j < n → w1.cell? ⟨w.heap.size + 1, j, none⟩ = some (S ((wds s).getD j [])) := fun j hj => by rw [← sz0]; exact hv j hj
  have HV := Lib.hid hv1
  have vz : w.heap.size + 1 < w1.heap.size := by rw [← sz0]; exact hz1
  have xc : ∀ o, w1.cell? ⟨w.heap.size, o, none⟩ = #[.int .i64 0, .int .i64 0, S []][o]? := (fun o => (hb.cell (p := ⟨w.heap.size, o, none⟩) (by simp <;> omega)).trans (by simp [go_sem])); have xf : ∀ o, w1.frozen? ⟨w.heap.size, o, none⟩ = false := (fun o => (hb.frozen (p := ⟨w.heap.size, o, none⟩) (by simp <;> omega)).trans (by simp [go_sem])); have xz : w.heap.size < w1.heap.size := (by have := hb.size; (try simp at this); omega); have xy := xz
  have hW : Below w.heap.size w w1 := by (repeat (first | exact Below.refl _ _ | assumption | refine Below.drew ?_ | refine up_drewN ?_ _ | refine up_alloc ?_ _ | refine up_set ?_ _ _ (by first | exact Nat.le_refl _ | (simp; done) | (simp; omega) | omega) | refine up_trans ?_ (by assumption)))
  clear hv hv1 hb hz1 SP sz0
  by_cases h3 : n < 3
  · have HN := Lib.hid (NO.out (N1.out h3))
    have i1 : (n : Int) < 3 := by omega
    clear NO YES N1 N2 N3 HSP HLT HNE HV h3
    go_wp2_with fail
    refine bodyPost_ret (v := .tuple #[.agg #[.int .i64 0, .int .i64 0, S []], .bool false]) (by simp [results, Tryz.results125, go_sem, xc]) rfl ⟨?_, by (repeat (first | exact Below.refl _ _ | assumption | refine Below.drew ?_ | refine up_drewN ?_ _ | refine up_alloc ?_ _ | refine up_set ?_ _ _ (by first | exact Nat.le_refl _ | (simp; done) | (simp; omega) | omega) | refine up_trans ?_ (by assumption)))⟩
    obtain ⟨⟨q1, q2, q3⟩, q4⟩ := HN.out
    rw [q1, q2, q3, q4]
  · obtain rfl : n = 3 := by omega
    obtain ⟨c0, c1, c2⟩ := HSP.out _ _ HV.out rfl
    obtain ⟨l0, l1, l2⟩ := HLT.out rfl
    have HS0 := Lib.hid (HNE.out rfl)
    clear HSP HLT HNE HV N1 h3 hn3
    have LI := Lib.hid (fun w => (show Calls Tryz.prog 155 #[S t2, .int .u8 32] w fun e w' => e = .returned (.int .i64 (Lib.lastIndexByte ⟨t2.toArray⟩ 32)) ∧ w = w' from (Tryz.strings_LastIndexByte ⟨t2.toArray⟩ 32 (show t2.length < _ by omega) w).mono fun e w' h => ⟨h.1, h.2.symm⟩))
    have hll := lsp_last t2
    generalize Lib.lastIndexByte ⟨t2.toArray⟩ 32 = li at *
    go_wp2_with fail
    refine (LI.out _).mono ?_
    rintro e w2 ⟨rfl, rfl⟩
    rcases hll with ⟨rfl, hl0⟩ | ⟨m, rfl, hl0⟩
    · have HN := Lib.hid (NO.out (N2.out hl0))
      clear NO YES N2 N3 hl0 LI
      go_wp2_with fail
      refine bodyPost_ret (v := .tuple #[.agg #[.int .i64 0, .int .i64 0, S []], .bool false]) (by simp [results, Tryz.results125, go_sem, xc]) rfl ⟨?_, by (repeat (first | exact Below.refl _ _ | assumption | refine Below.drew ?_ | refine up_drewN ?_ _ | refine up_alloc ?_ _ | refine up_set ?_ _ _ (by first | exact Nat.le_refl _ | (simp; done) | (simp; omega) | omega) | refine up_trans ?_ (by assumption)))⟩
      obtain ⟨⟨q1, q2, q3⟩, q4⟩ := HN.out
      rw [q1, q2, q3, q4]
    · have hml : m < t2.length := by have := lsp_le t2; omega
      obtain ⟨u, hu⟩ : ∃ u, u = t2.take m := ⟨_, rfl⟩
      have hul : u.length = m := by rw [hu, List.length_take]; omega
      have hun : uneA t2 (lsp t2 - 1) 0 = uneA u u.length 0 := by
        unfold uneA
        rw [hl0, Nat.add_sub_cancel, List.take_length, ← hu]
      rw [hun] at N3
      have hTl := uneA_len u u.length 0
      generalize hT : uneA u u.length 0 = T at *
      have HT := Lib.hid hT
      have HU := Lib.hid hu
      have hTs : T.length ≤ 1048576 := by omega
      have Y := Lib.hid (fun (h : recT (atV t0) (atV t1) T = s) => rec_yes h HS0.out)
      have hum : u.length ≤ 1048576 := by omega
      clear hT hun hl0 N2 LI hTl hu hul
      have hWL := Lib.hid (HW.out.up (up_alloc hW (.cells #[.int .i64 0, .int .i64 0, S []] 78)))
      have A0 := Lib.hid (atoi_any t0 _ hWL.out (by omega))
      go_wp2_with fail
      refine A0.out.mono ?_
      rintro e w2 ⟨er, rfl, hb⟩
      have hB : Below w1.heap.size w1 w2 := by (repeat (first | exact Below.refl _ _ | assumption | refine Below.drew ?_ | refine up_drewN ?_ _ | refine up_alloc ?_ _ | refine up_set ?_ _ _ (by first | exact Nat.le_refl _ | (simp; done) | (simp; omega) | omega) | refine up_trans ?_ (by assumption)))
      have Y2 := Lib.hid ((IsB.new w1 #[.int .i64 0, .int .i64 0, S []] 78).up hb)
      have X2 := Lib.hid ((show IsB w1 w.heap.size #[.int .i64 0, .int .i64 0, S []] from ⟨xc, xf, xz⟩).up hB)
      replace c1 := (hB.cell (p := ⟨w.heap.size + 1, 1, none⟩) vz).trans c1
      replace c2 := (hB.cell (p := ⟨w.heap.size + 1, 2, none⟩) vz).trans c2
      have vz2 := Nat.lt_of_lt_of_le vz hB.size
      replace hW := up_trans hW hB
      obtain ⟨y, hy⟩ : ∃ y, y = w1.heap.size := ⟨_, rfl⟩
      rw [← hy] at Y2 vz ⊢
      obtain ⟨yc, yf, yz⟩ := Y2.out
      clear hb hB xc xf xz xy c0 A0 hWL hy
      have hWL := Lib.hid (HW.out.up (up_set hW ⟨y, 0, none⟩ (.int .i64 (atV t0)) (by show w.heap.size ≤ y; omega)))
      have A1 := Lib.hid (atoi_any t1 _ hWL.out (by omega))
      generalize hav0 : atV t0 = av0 at *
      generalize hav1 : atV t1 = av1 at *
      clear hav0 hav1
      go_wp2_with fail
      refine A1.out.mono ?_
      rintro e w3 ⟨er1, rfl, hb⟩
      have Y3 : Hid (IsB w3 y #[.int .i64 av0, .int .i64 0, S []]) := Lib.hid ((Y2.out.set (k := 0) (.int .i64 av0) (show 0 < 3 by omega)).up hb)
      have X3 := Lib.hid ((X2.out.far (p := ⟨y, 0, none⟩) (.int .i64 av0) (by show w.heap.size ≠ y; omega)).up hb)
      have c23 : w3.cell? ⟨w.heap.size + 1, 2, none⟩ = some (S t2) := (hb.cell (p := ⟨w.heap.size + 1, 2, none⟩) (by simpa using vz2)).trans ((World.cell?_setCell_other _ ⟨y, 0, none⟩ ⟨w.heap.size + 1, 2, none⟩ _ (by intro e; injection e with e _; omega)).trans c2)
      have hs3 : w2.heap.size ≤ w3.heap.size := by have := hb.size; simpa using this
      replace hW := (up_set hW ⟨y, 0, none⟩ (.int .i64 av0) (by show w.heap.size ≤ y; omega)).trans (hb.mono (by have := hW.size; simp; omega))
      obtain ⟨yc3, yf3, yz3⟩ := Y3.out
      clear hb c1 c2 yc yf Y2 X2 A1 hWL
      have m1 : (0 : Int) ≤ (m : Int) := by omega
      have m2 : (m : Int) ≤ (t2.length : Int) := by omega
      go_upto_region 12 with (fail)
      obtain ⟨w4, hw4⟩ : ∃ z, z = (w3.setCell ⟨y, 1, none⟩ (.int .i64 av1)).alloc (.cells #[.pointer none, .slice none 0 0] 154) := ⟨_, rfl⟩
      have hs4 : w4.heap.size = w3.heap.size + 1 := by rw [hw4]; simp
      have HB4 : Hid (Lib.IsBuilder 154 5 w3.heap.size w3.heap.size (Lib.byteCells []) w4) := Lib.hid (by
        have := bld_new (w3.setCell ⟨y, 1, none⟩ (.int .i64 av1))
        rw [← hw4] at this
        simpa using this)
      have hb4 : Below (w3.setCell ⟨y, 1, none⟩ (.int .i64 av1)).heap.size (w3.setCell ⟨y, 1, none⟩ (.int .i64 av1)) w4 := by rw [hw4]; exact up_alloc (Below.refl _ _) _
      have Y4 : Hid (IsB w4 y #[.int .i64 av0, .int .i64 av1, S []]) := Lib.hid ((Y3.out.set (k := 1) (.int .i64 av1) (show 1 < 3 by omega)).up hb4)
      have X4 := Lib.hid ((X3.out.far (p := ⟨y, 1, none⟩) (.int .i64 av1) (by show w.heap.size ≠ y; omega)).up hb4)
      have hW4 := Lib.hid ((up_set hW ⟨y, 1, none⟩ (.int .i64 av1) (by show w.heap.size ≤ y; omega)).trans (hb4.mono (by have := hW.size; simp; omega)))
      rw [← hw4]
      obtain ⟨z, hz⟩ : ∃ z, z = w3.heap.size := ⟨_, rfl⟩
      rw [← hz] at HB4 hs4 yz3 ⊢
      have hzw : w.heap.size ≤ z := by omega
      rw [← HU.out]
      clear hw4 hb4 X3 Y3 yc3 yf3 hW hz c23 hml
      go_wp2_with fail
      go_loopw [9, 10] (fun i v10 wr => ∃ (k : Nat) (q : List UInt8), k ≤ u.length ∧ i = .int .i64 k ∧ q.length ≤ k ∧ Hid (T = q ++ uneA u u.length k) ∧ Hid (Lib.IsBuilder 154 5 z z (Lib.byteCells q) wr) ∧ Hid (Below z w4 wr)) (fun i _ _ => u.length - (intOf i).toNat)
      case atStart => exact ⟨0, [], Nat.zero_le _, rfl, Nat.zero_le _, Lib.hid HT.out.symm, HB4, Lib.hid (Below.refl _ _)⟩
      case round =>
        obtain ⟨k, q, hk, rfl, hq, HQ, HB, HWr⟩ := hrel
        have swr := HWr.out.size
        by_cases hlt : k < u.length
        · have g1 : (k : Int) < (u.length : Int) := by omega
          have g3 : (0 : Int) ≤ (k : Int) := by omega
          by_cases h92 : u[k] = 92
          · have n2 : (((u[k]).toNat : Int) == 92) = true := by rw [h92]; rfl
            by_cases hlt2 : k + 1 < u.length
            · have g4 : (k : Int) + 1 < (u.length : Int) := by omega
              have HS := Lib.hid (uneA_two u hlt2 (Nat.le_refl _) h92)
              by_cases h110 : u[k + 1] = 110
              · have n3 : (((u[k + 1]).toNat : Int) == 110) = true := by rw [h110]; rfl
                have HS2 := Lib.hid (show T = (q ++ [10]) ++ uneA u u.length (k + 2) by rw [HQ.out, HS.out, if_pos h110]; simp)
                clear h92 h110 HS HQ
                go_wp2_with fail
                refine (writeByte_any z z _ 10 _ HB.out (by rw [Lib.byteCells_length]; omega) (by omega)).mono ?_
                rintro e w5 ⟨rfl, hA, hb5⟩
                have HB5 := Lib.hid (bld_put (x := 10) hA rfl)
                have HW5 := Lib.hid (HWr.out.trans hb5)
                clear hA hb5 HB HWr
                go_wp2_with fail
                go_roundw
                case rel => exact ⟨k + 2, q ++ [10], by omega, by go_num, by simp; omega, HS2, HB5, HW5⟩
                case measure => simp [intOf]; omega
              · have n3 : (((u[k + 1]).toNat : Int) == 110) = false := by rw [beq_eq_false_iff_ne]; intro e2; exact h110 (UInt8.toNat_inj.1 (by show (u[k + 1]).toNat = 110; omega))
                have HS2 := Lib.hid (show T = (q ++ [u[k + 1]]) ++ uneA u u.length (k + 2) by rw [HQ.out, HS.out, if_neg h110]; simp)
                clear h92 h110 HS HQ
                go_wp2_with fail
                refine (writeByte_any z z _ _ _ HB.out (by rw [Lib.byteCells_length]; omega) (by omega)).mono ?_
                rintro e w5 ⟨rfl, hA, hb5⟩
                have HB5 := Lib.hid (bld_put (x := u[k + 1]) hA rfl)
                have HW5 := Lib.hid (HWr.out.trans hb5)
                clear hA hb5 HB HWr
                go_wp2_with fail
                go_roundw
                case rel => exact ⟨k + 2, q ++ [u[k + 1]], by omega, by go_num, by simp; omega, HS2, HB5, HW5⟩
                case measure => simp [intOf]; omega
            · have g4 : ¬ (k : Int) + 1 < (u.length : Int) := by omega
              have HS2 := Lib.hid (show T = (q ++ [u[k]]) ++ uneA u u.length (k + 1) by rw [HQ.out, uneA_one u hlt (Nat.le_refl _) (fun h => hlt2 h.2)]; simp)
              clear h92 HQ
              go_wp2_with fail
              refine (writeByte_any z z _ _ _ HB.out (by rw [Lib.byteCells_length]; omega) (by omega)).mono ?_
              rintro e w5 ⟨rfl, hA, hb5⟩
              have HB5 := Lib.hid (bld_put (x := u[k]) hA rfl)
              have HW5 := Lib.hid (HWr.out.trans hb5)
              clear hA hb5 HB HWr
              go_wp2_with fail
              go_roundw
              case rel => exact ⟨k + 1, q ++ [u[k]], by omega, by go_num, by simp; omega, HS2, HB5, HW5⟩
              case measure => simp [intOf]; omega
          · have n2 : (((u[k]).toNat : Int) == 92) = false := by rw [beq_eq_false_iff_ne]; intro e2; exact h92 (UInt8.toNat_inj.1 (by show (u[k]).toNat = 92; omega))
            have HS2 := Lib.hid (show T = (q ++ [u[k]]) ++ uneA u u.length (k + 1) by rw [HQ.out, uneA_one u hlt (Nat.le_refl _) (fun h => h92 h.1)]; simp)
            clear h92 HQ
            go_wp2_with fail
            refine (writeByte_any z z _ _ _ HB.out (by rw [Lib.byteCells_length]; omega) (by omega)).mono ?_
            rintro e w5 ⟨rfl, hA, hb5⟩
            have HB5 := Lib.hid (bld_put (x := u[k]) hA rfl)
            have HW5 := Lib.hid (HWr.out.trans hb5)
            clear hA hb5 HB HWr
            go_wp2_with fail
            go_roundw
            case rel => exact ⟨k + 1, q ++ [u[k]], by omega, by go_num, by simp; omega, HS2, HB5, HW5⟩
            case measure => simp [intOf]; omega
        · obtain rfl : k = u.length := by omega
          have hTq : T = q := by rw [HQ.out, uneA_end u (Nat.le_refl _), List.append_nil]
          subst hTq
          go_wp2_with fail
          refine (Tryz.Builder_String_any _ _ _ _ HB.out (by omega)).mono ?_
          rintro e w5 ⟨rfl, hb5⟩
          have HZ := Lib.hid (HWr.out.trans hb5)
          have Y5 := Lib.hid (Y4.out.low HZ.out (by omega))
          have X5 := Lib.hid (X4.out.low HZ.out (by omega))
          have hs5 := HZ.out.size
          have hW5 := hW4.out.trans (HZ.out.mono hzw)
          obtain ⟨yc, yf, yz⟩ := Y5.out
          have hW6 := up_set hW5 ⟨y, 2, none⟩ (S T) (by show w.heap.size ≤ y; omega)
          have R1 := Lib.hid (fun w hw => implRecordText_any ⟨av0, av1, T⟩ w (show T.length ≤ 1048576 by omega) hw)
          unfold chAgg at R1
          simp only at R1
          have HL6 := Lib.hid (HW.out.lt.up hW6)
          have HW6 := Lib.hid hW6
          clear hb5 HB HWr HQ HT HB4 X4 Y4 hW4 HZ hW5 hW6
          go_wp2_with fail
          refine (R1.out _ HL6.out).mono ?_
          rintro e w7 ⟨rfl, hb7⟩
          have X7 := Lib.hid ((X5.out.far (p := ⟨y, 2, none⟩) (S T) (by show w.heap.size ≠ y; omega)).up hb7)
          have Y7 : Hid (IsB w7 y #[.int .i64 av0, .int .i64 av1, S T]) := Lib.hid ((Y5.out.set (k := 2) (S T) (show 2 < 3 by omega)).up hb7)
          have hW := up_trans HW6.out hb7
          clear hb7 R1 HL6 HW6 X5 Y5 yc yf yz
          obtain ⟨xc, xf, xz⟩ := X7.out
          obtain ⟨yc, yf, yz⟩ := Y7.out
          by_cases hr : recT av0 av1 T = s
          · have HN := Lib.hid (YES.out _ _ _ (Y.out hr))
            have hd := hr
            clear hr NO YES N3 Y
            generalize recT av0 av1 T = r at *
            go_wp2_with fail
            refine bodyPost_ret (v := .tuple #[.agg #[.int .i64 av0, .int .i64 av1, S T], .bool true]) (by simp [results, Tryz.results125, go_sem, xc]) rfl ⟨?_, by (repeat (first | exact Below.refl _ _ | assumption | refine Below.drew ?_ | refine up_drewN ?_ _ | refine up_alloc ?_ _ | refine up_set ?_ _ _ (by first | exact Nat.le_refl _ | (simp; done) | (simp; omega) | omega) | refine up_trans ?_ (by assumption)))⟩
            obtain ⟨⟨q1, q2, q3⟩, q4⟩ := HN.out
            rw [q1, q2, q3, q4]
          · have HN := Lib.hid (NO.out (N3.out hr))
            have hd : (!(recT av0 av1 T == s)) = true := by simpa using hr
            clear hr NO YES N3 Y
            generalize recT av0 av1 T = r at *
            go_wp2_with fail
            refine bodyPost_ret (v := .tuple #[.agg #[.int .i64 0, .int .i64 0, S []], .bool false]) (by simp [results, Tryz.results125, go_sem, xc]) rfl ⟨?_, by (repeat (first | exact Below.refl _ _ | assumption | refine Below.drew ?_ | refine up_drewN ?_ _ | refine up_alloc ?_ _ | refine up_set ?_ _ _ (by first | exact Nat.le_refl _ | (simp; done) | (simp; omega) | omega) | refine up_trans ?_ (by assumption)))⟩
            obtain ⟨⟨q1, q2, q3⟩, q4⟩ := HN.out
            rw [q1, q2, q3, q4]

end Go.Proofs.YtbjlkdenkmbepaaGreatDoor

namespace Go.Proofs.YtbjlkdenkmbepaaGreatDoor
open Go.RowKit
set_option linter.unusedVariables false

/-- the text and the number that PlayRecords returns. -/
noncomputable def plS (s : List UInt8) (rs : List (List UInt8)) : List UInt8 := if tv s = true ∧ rs.length ≤ 30 then (pl s rs).1 else []
noncomputable def plN (s : List UInt8) (rs : List (List UInt8)) : Int := if tv s = true ∧ rs.length ≤ 30 then ((pl s rs).2 : Nat) else -1
theorem rdC_len (s : List UInt8) : (rdC s).p.length ≤ 120 := by
  unfold rdC
  cases h : rdM s with
  | none => simp [c0]
  | some x =>
    obtain ⟨a, b, p, rfl, hr⟩ := rdM_rec h
    exact tv_len hr.2.2.1
theorem pl_step {s t : List UInt8} {rs : List (List UInt8)} {k : Nat} (hk : k < rs.length) (h1 : pl s rs = ((pl t (rs.drop k)).1, k + (pl t (rs.drop k)).2)) :
    (rdB rs[k] = false → pl s rs = (t, k)) ∧ (rdB rs[k] = true → chOk t (rdC rs[k]).a (rdC rs[k]).c (rdC rs[k]).p = false → pl s rs = (t, k)) ∧
    (rdB rs[k] = true → chOk t (rdC rs[k]).a (rdC rs[k]).c (rdC rs[k]).p = true → pl s rs = ((pl (apTo t (rdC rs[k]).a (rdC rs[k]).c (rdC rs[k]).p) (rs.drop (k + 1))).1, (k + 1) + (pl (apTo t (rdC rs[k]).a (rdC rs[k]).c (rdC rs[k]).p) (rs.drop (k + 1))).2) ∧ tv (apTo t (rdC rs[k]).a (rdC rs[k]).c (rdC rs[k]).p) = true) := by
  rw [List.drop_eq_getElem_cons hk] at h1
  cases hm : rdM rs[k] with
  | none =>
    obtain ⟨_, hb⟩ := rd_no hm
    rw [pl_none _ hm] at h1
    refine ⟨fun _ => by rw [h1]; simp, fun e => ?_, fun e => ?_⟩ <;> (rw [hb] at e; cases e)
  | some x =>
    obtain ⟨hc, hb⟩ := rd_yes hm
    rw [hc]
    refine ⟨(fun e => by rw [hb] at e; cases e), fun _ e => ?_, fun _ e => ?_⟩
    · rw [pl_bad _ hm e] at h1
      rw [h1]; simp
    · rw [pl_ok _ hm e] at h1
      have ha : apTo t x.a x.c x.p = apF t x := by unfold apTo; rw [if_pos e]; rfl
      rw [ha]
      refine ⟨by rw [h1]; simp only [Prod.mk.injEq, true_and]; omega, (okF_tv e).2⟩
theorem pl_last {s t : List UInt8} {rs : List (List UInt8)} (h1 : pl s rs = ((pl t (rs.drop rs.length)).1, rs.length + (pl t (rs.drop rs.length)).2)) : pl s rs = (t, rs.length) := by
  rw [List.drop_length] at h1
  rw [h1]
  simp [pl]

set_option maxRecDepth 100000 in
set_option maxHeartbeats 1000000 in
theorem implPlay_any (s : List UInt8) (v : Value) (rs : List (List UInt8)) (w : World) (hs : s.length ≤ 1048577) (hv : RdL w 1 strC v rs) (hr : ∀ r ∈ rs, r.length ≤ 1048576) (hL : LW w) :
    Calls Tryz.prog 77 #[S s, v] w fun e w' => e = .returned (.tuple #[S (plS s rs), .int .i64 (plN s rs)]) ∧ Below w.heap.size w w' := by
  obtain ⟨A, c, rfl, _, _⟩ := hv.form
  obtain ⟨zs, hzs⟩ : ∃ z, z = plS s rs := ⟨_, rfl⟩
  obtain ⟨zn, hzn⟩ : ∃ z, z = plN s rs := ⟨_, rfl⟩
  have HZ := Lib.hid (And.intro hzs hzn)
  rw [← hzs, ← hzn]
  clear hzs hzn
  have hml : s.length ≤ maxLen := by unfold maxLen; omega
  have HV := Lib.hid hv
  have HW := Lib.hid hL
  have HR := Lib.hid hr
  clear hv hL hr
  rcases ht : tv s with _ | _
  · have H1 := Lib.hid (show zs = [] ∧ zn = -1 by rw [HZ.out.1, HZ.out.2]; unfold plS plN; rw [ht]; simp)
    go_enter Tryz.func77, Tryz.ntmps77
    go_wp2_with (go_at_call 53; refine (implTextValid_any s _ hml).mono ?_; rintro e w1 ⟨rfl, rfl⟩)
    go_ret2
    rw [H1.out.1, H1.out.2]
    exact ⟨rfl, by (repeat (first | exact Below.refl _ _ | assumption | refine Below.drew ?_ | refine up_drewN ?_ _ | refine up_alloc ?_ _ | refine up_set ?_ _ _ (by first | exact Nat.le_refl _ | (simp; done) | (simp; omega) | omega) | refine up_trans ?_ (by assumption)))⟩
  by_cases h30 : rs.length ≤ 30
  · have i30 : ¬ (30 : Int) < (rs.length : Int) := by omega
    have HP := Lib.hid (show zs = (pl s rs).1 ∧ zn = ((pl s rs).2 : Nat) by rw [HZ.out.1, HZ.out.2]; unfold plS plN; rw [if_pos ⟨ht, h30⟩, if_pos ⟨ht, h30⟩]; exact ⟨rfl, rfl⟩)
    have HT := Lib.hid ht
    go_enter Tryz.func77, Tryz.ntmps77
    go_wp2_with (go_at_call 53; refine (implTextValid_any s _ hml).mono ?_; rintro e w1 ⟨rfl, rfl⟩)
    clear ht
    go_loopw [0, 21] (fun u i wr => ∃ (k : Nat) (t : List UInt8), k ≤ rs.length ∧ i = .int .i64 k ∧ u = S t ∧ Hid (tv t = true) ∧ Hid (pl s rs = ((pl t (rs.drop k)).1, k + (pl t (rs.drop k)).2)) ∧ Below w.heap.size w wr) (fun _ i _ => rs.length - (intOf i).toNat)
    case atStart => exact ⟨0, s, Nat.zero_le _, rfl, rfl, HT, Lib.hid (by simp), Below.refl _ _⟩
    case round =>
      obtain ⟨k, t, hk, rfl, rfl, HT2, HQ, hW⟩ := hrel
      by_cases hlt : k < rs.length
      · have j1 : (0 : Int) ≤ (k : Int) := by omega
        have j2 : (k : Int) < (rs.length : Int) := by omega
        obtain ⟨b, o, rfl, hb, hc⟩ := (RdL.up HV.out hW).cells strC_len hlt
        have c0 := hc 0 _ rfl
        simp only [Nat.mul_one, Nat.add_zero] at c0
        have hrl := HR.out _ (List.getElem_mem hlt)
        have htl := tv_len HT2.out
        have hxl := rdC_len rs[k]
        have PS := Lib.hid (pl_step hlt HQ.out)
        have RR := Lib.hid (fun w hw => implReadRecord_any rs[k] w hrl hw)
        generalize rs[k] = r at *
        generalize rdC r = x at *
        generalize rdB r = rb at *
        obtain ⟨xa, xc, xp⟩ := x
        simp only at PS hxl
        have AP := Lib.hid (fun w => implApplyChange_any t xa xc xp w (by unfold maxLen; omega) (by omega))
        unfold AcPost chV at AP
        unfold chAgg at RR
        simp only at RR
        generalize chOk t xa xc xp = ck at *
        generalize apTo t xa xc xp = t2 at *
        clear hc
        go_wp2_with fail
        refine (RR.out _ (HW.out.up hW)).mono ?_
        rintro e w1 ⟨rfl, hb1⟩
        replace hW := up_trans hW hb1
        clear hb1 RR c0
        rcases rb with _ | _
        · have HF := Lib.hid (PS.out.1 (by trivial))
          go_wp2_with fail
          go_ret2
          rw [HP.out.1, HP.out.2, HF.out]
          exact ⟨rfl, by (repeat (first | exact Below.refl _ _ | assumption | refine Below.drew ?_ | refine up_drewN ?_ _ | refine up_alloc ?_ _ | refine up_set ?_ _ _ (by first | exact Nat.le_refl _ | (simp; done) | (simp; omega) | omega) | refine up_trans ?_ (by assumption)))⟩
        · go_wp2_with fail
          refine (AP.out _).mono ?_
          rintro e w2 ⟨rfl, hb2⟩
          replace hW := up_trans (up_alloc hW _) hb2
          clear hb2 AP
          rcases ck with _ | _
          · have HF := Lib.hid (PS.out.2.1 (by trivial) (by trivial))
            go_wp2_with fail
            go_ret2
            rw [HP.out.1, HP.out.2, HF.out]
            exact ⟨rfl, by (repeat (first | exact Below.refl _ _ | assumption | refine Below.drew ?_ | refine up_drewN ?_ _ | refine up_alloc ?_ _ | refine up_set ?_ _ _ (by first | exact Nat.le_refl _ | (simp; done) | (simp; omega) | omega) | refine up_trans ?_ (by assumption)))⟩
          · have HF := Lib.hid (PS.out.2.2 (by trivial) (by trivial))
            go_wp2_with fail
            go_roundw
            case rel => exact ⟨k + 1, t2, by omega, by go_num, rfl, Lib.hid HF.out.2, Lib.hid HF.out.1, hW⟩
            case measure => simp [intOf]; omega
      · obtain rfl : k = rs.length := by omega
        have HF := Lib.hid (pl_last HQ.out)
        go_wp2_with fail
        go_ret2
        rw [HP.out.1, HP.out.2, HF.out]
        exact ⟨rfl, hW⟩
  · have i30 : (30 : Int) < (rs.length : Int) := by omega
    have H1 := Lib.hid (show zs = [] ∧ zn = -1 by rw [HZ.out.1, HZ.out.2]; unfold plS plN; rw [if_neg (fun h => h30 h.2), if_neg (fun h => h30 h.2)]; exact ⟨rfl, rfl⟩)
    go_enter Tryz.func77, Tryz.ntmps77
    go_wp2_with (go_at_call 53; refine (implTextValid_any s _ hml).mono ?_; rintro e w1 ⟨rfl, rfl⟩)
    go_ret2
    rw [H1.out.1, H1.out.2]
    exact ⟨rfl, by (repeat (first | exact Below.refl _ _ | assumption | refine Below.drew ?_ | refine up_drewN ?_ _ | refine up_alloc ?_ _ | refine up_set ?_ _ _ (by first | exact Nat.le_refl _ | (simp; done) | (simp; omega) | omega) | refine up_trans ?_ (by assumption)))⟩

set_option maxRecDepth 100000 in
set_option maxHeartbeats 1000000 in
theorem specPlay_any (s : List UInt8) (v : Value) (rs : List (List UInt8)) (w : World) (hs : s.length ≤ 1048577) (hv : RdL w 1 strC v rs) (hr : ∀ r ∈ rs, r.length ≤ 1048576) :
    Calls Tryz.prog 75 #[S s, v] w fun e w' => e = .returned (.tuple #[S (plS s rs), .int .i64 (plN s rs)]) ∧ Below w.heap.size w w' := by
  obtain ⟨A, c, rfl, _, _⟩ := hv.form
  obtain ⟨zs, hzs⟩ : ∃ z, z = plS s rs := ⟨_, rfl⟩
  obtain ⟨zn, hzn⟩ : ∃ z, z = plN s rs := ⟨_, rfl⟩
  have HZ := Lib.hid (And.intro hzs hzn)
  rw [← hzs, ← hzn]
  clear hzs hzn
  have hml : s.length ≤ maxLen := by unfold maxLen; omega
  have HV := Lib.hid hv
  have HR := Lib.hid hr
  clear hv hr
  rcases ht : tv s with _ | _
  · have H1 := Lib.hid (show zs = [] ∧ zn = -1 by rw [HZ.out.1, HZ.out.2]; unfold plS plN; rw [ht]; simp)
    go_enter Tryz.func75, Tryz.ntmps75
    go_wp2_with (go_at_call 32; refine (specTextValid_any s _ hml).mono ?_; rintro e w1 ⟨rfl, rfl⟩)
    go_ret2
    rw [H1.out.1, H1.out.2]
    exact ⟨rfl, by (repeat (first | exact Below.refl _ _ | assumption | refine Below.drew ?_ | refine up_drewN ?_ _ | refine up_alloc ?_ _ | refine up_set ?_ _ _ (by first | exact Nat.le_refl _ | (simp; done) | (simp; omega) | omega) | refine up_trans ?_ (by assumption)))⟩
  by_cases h30 : rs.length ≤ 30
  · have i30 : ¬ (30 : Int) < (rs.length : Int) := by omega
    have HP := Lib.hid (show zs = (pl s rs).1 ∧ zn = ((pl s rs).2 : Nat) by rw [HZ.out.1, HZ.out.2]; unfold plS plN; rw [if_pos ⟨ht, h30⟩, if_pos ⟨ht, h30⟩]; exact ⟨rfl, rfl⟩)
    have HT := Lib.hid ht
    go_enter Tryz.func75, Tryz.ntmps75
    go_wp2_with (go_at_call 32; refine (specTextValid_any s _ hml).mono ?_; rintro e w1 ⟨rfl, rfl⟩)
    clear ht
    go_loopw [0, 6] (fun u i wr => ∃ (k : Nat) (t : List UInt8), k ≤ rs.length ∧ i = .int .i64 k ∧ u = S t ∧ Hid (tv t = true) ∧ Hid (pl s rs = ((pl t (rs.drop k)).1, k + (pl t (rs.drop k)).2)) ∧ Below w.heap.size w wr) (fun _ i _ => rs.length - (intOf i).toNat)
    case atStart => exact ⟨0, s, Nat.zero_le _, rfl, rfl, HT, Lib.hid (by simp), Below.refl _ _⟩
    case round =>
      obtain ⟨k, t, hk, rfl, rfl, HT2, HQ, hW⟩ := hrel
      by_cases hlt : k < rs.length
      · have j1 : (0 : Int) ≤ (k : Int) := by omega
        have j2 : (k : Int) < (rs.length : Int) := by omega
        obtain ⟨b, o, rfl, hb, hc⟩ := (RdL.up HV.out hW).cells strC_len hlt
        have c0 := hc 0 _ rfl
        simp only [Nat.mul_one, Nat.add_zero] at c0
        have hrl := HR.out _ (List.getElem_mem hlt)
        have htl := tv_len HT2.out
        have hxl := rdC_len rs[k]
        have PS := Lib.hid (pl_step hlt HQ.out)
        have RR := Lib.hid (fun w => specReadRecord_any rs[k] w (by omega))
        generalize rs[k] = r at *
        generalize rdC r = x at *
        generalize rdB r = rb at *
        obtain ⟨xa, xc, xp⟩ := x
        simp only at PS hxl
        have AP := Lib.hid (fun w => specApplyChange_any t xa xc xp w (by unfold maxLen; omega) (by omega))
        unfold AcPost chV at AP
        unfold chAgg at RR
        simp only at RR
        generalize chOk t xa xc xp = ck at *
        generalize apTo t xa xc xp = t2 at *
        clear hc
        go_wp2_with fail
        refine (RR.out _).mono ?_
        rintro e w1 ⟨rfl, hb1⟩
        replace hW := up_trans hW hb1
        clear hb1 RR c0
        go_wp2_with fail
        refine (AP.out _).mono ?_
        rintro e w2 ⟨rfl, hb2⟩
        replace hW := up_trans (up_alloc hW _) hb2
        clear hb2 AP
        rcases rb with _ | _
        · have HF := Lib.hid (PS.out.1 (by trivial))
          go_wp2_with fail
          go_ret2
          rw [HP.out.1, HP.out.2, HF.out]
          exact ⟨rfl, by (repeat (first | exact Below.refl _ _ | assumption | refine Below.drew ?_ | refine up_drewN ?_ _ | refine up_alloc ?_ _ | refine up_set ?_ _ _ (by first | exact Nat.le_refl _ | (simp; done) | (simp; omega) | omega) | refine up_trans ?_ (by assumption)))⟩
        · rcases ck with _ | _
          · have HF := Lib.hid (PS.out.2.1 (by trivial) (by trivial))
            go_wp2_with fail
            go_ret2
            rw [HP.out.1, HP.out.2, HF.out]
            exact ⟨rfl, by (repeat (first | exact Below.refl _ _ | assumption | refine Below.drew ?_ | refine up_drewN ?_ _ | refine up_alloc ?_ _ | refine up_set ?_ _ _ (by first | exact Nat.le_refl _ | (simp; done) | (simp; omega) | omega) | refine up_trans ?_ (by assumption)))⟩
          · have HF := Lib.hid (PS.out.2.2 (by trivial) (by trivial))
            go_wp2_with fail
            go_roundw
            case rel => exact ⟨k + 1, t2, by omega, by go_num, rfl, Lib.hid HF.out.2, Lib.hid HF.out.1, hW⟩
            case measure => simp [intOf]; omega
      · obtain rfl : k = rs.length := by omega
        have HF := Lib.hid (pl_last HQ.out)
        go_wp2_with fail
        go_ret2
        rw [HP.out.1, HP.out.2, HF.out]
        exact ⟨rfl, hW⟩
  · have i30 : (30 : Int) < (rs.length : Int) := by omega
    have H1 := Lib.hid (show zs = [] ∧ zn = -1 by rw [HZ.out.1, HZ.out.2]; unfold plS plN; rw [if_neg (fun h => h30 h.2), if_neg (fun h => h30 h.2)]; exact ⟨rfl, rfl⟩)
    go_enter Tryz.func75, Tryz.ntmps75
    go_wp2_with (go_at_call 32; refine (specTextValid_any s _ hml).mono ?_; rintro e w1 ⟨rfl, rfl⟩)
    go_ret2
    rw [H1.out.1, H1.out.2]
    exact ⟨rfl, by (repeat (first | exact Below.refl _ _ | assumption | refine Below.drew ?_ | refine up_drewN ?_ _ | refine up_alloc ?_ _ | refine up_set ?_ _ _ (by first | exact Nat.le_refl _ | (simp; done) | (simp; omega) | omega) | refine up_trans ?_ (by assumption)))⟩

end Go.Proofs.YtbjlkdenkmbepaaGreatDoor
