/- What is proved here: contracts of the reference's HistoryForth. No condition. -/
import Derived.Test.YtbjlkdenkmbepaaGreatDoorHistJ
import Derived.Test.YtbjlkdenkmbepaaGreatDoorHistF
namespace Go.Proofs.YtbjlkdenkmbepaaGreatDoor
open Go.RowKit
set_option linter.unusedVariables false

theorem foTo_none (ms : List Mo) (a : Int) (k : Nat) (h : ∀ i, i < k → (ms.getD i m0).par ≠ a) : foTo ms a k = -1 := by
  induction k with
  | zero => rfl
  | succ k ih =>
    unfold foTo
    rw [if_neg (h k (by omega)), ih (fun i hi => h i (by omega))]
theorem foTo_low {ms : List Mo} {a : Nat} {s : List UInt8} {o : List (List UInt8)} (h : HGood ms a s o) : foTo ms a (a + 1) = -1 := by
  have h1 := h.a1
  refine foTo_none ms a _ (fun i hi he => ?_)
  by_cases h0 : i = 0
  · subst h0
    rw [h.m] at he
    have : (-1 : Int) = a := he
    omega
  · have := (h.step i (by omega) (by omega)).2.1
    omega


set_option maxRecDepth 100000 in
set_option maxHeartbeats 1000000 in
theorem specHistoryForth_yes (v : Value) (ms : List Mo) (a : Nat) (s : List UInt8) (w : World) (o : List (List UInt8)) (h : RdM w v ms) (hg : HGood ms a s o) :
    Calls Tryz.prog 63 #[.agg #[v, .int .i64 a], S s] w (HRes ms (toAt ms.length a (foTo ms a ms.length)) (toText ms.length o s (foTo ms a ms.length)) (inB (foTo ms a ms.length) 0 ((ms.length : Int) - 1)) w) := by
  have hn30 := hg.n30
  have ha := hg.a1
  have hsl := tv_len hg.t
  obtain ⟨A, c, rfl, _, _⟩ := h.1.form
  have H := Lib.hid h
  have T := Lib.hid (fun (w' : World) (hb : Below w.heap.size w w') => specHistoryValid_any (.slice A ms.length c) ms a s w' (h.up hb) (by omega) (by unfold maxLen; omega))
  have C := Lib.hid (fun (w' : World) (hb : Below w.heap.size w w') => l9Copy_any (.slice A ms.length c) ms a w' (h.up hb) (by omega))
  have HG := Lib.hid hg
  have P : Hid (∀ k f w', ms.getD k m0 = f → a < k → k < ms.length → f.par = a → Calls Tryz.prog 105 #[S s, .agg #[.int .i64 f.f.a, .int .i64 f.f.c, S f.f.p]] w' (fun e w'' => e = .returned (.tuple #[S (o.getD k []), .bool true]) ∧ Below w'.heap.size w' w'')) := Lib.hid (by
    intro k f w' hf h1 h2 h3
    obtain ⟨_, _, s3, _, s5⟩ := hg.step k (by omega) h2
    have hpl := (hg.put h2).1
    rw [hf] at s3 s5 hpl
    rw [h3, hg.at_] at s3 s5
    obtain ⟨p, ⟨fa, fc, fp⟩, ⟨ba, bc, bp⟩⟩ := f
    have hco : chOk s fa fc fp = true := s3
    have hto : apTo s fa fc fp = apF s ⟨fa, fc, fp⟩ := by unfold apTo apF; rw [if_pos hco]
    have := specApplyChange_any s fa fc fp w' (by unfold maxLen; omega) (by simp only at hpl; omega)
    unfold AcPost at this
    rw [hco, hto] at this
    rw [s5]
    exact this)
  clear h hg
  unfold HRes
  generalize hF : foTo ms a ms.length = F
  have HFF := Lib.hid hF
  clear hF
  generalize hTA : toAt ms.length a F = TA
  generalize hTT : toText ms.length o s F = TT
  generalize hOK : inB F 0 ((ms.length : Int) - 1) = OK
  have HTA := Lib.hid hTA
  have HTT := Lib.hid hTT
  have HOK := Lib.hid hOK
  clear hTA hTT hOK
  go_enter Tryz.func63, Tryz.ntmps63
  go_wp2_with fail
  refine (T.out _ (by exact bBel)).mono ?_
  rintro e w1 ⟨ok, rfl, hh, hb⟩
  obtain rfl : ok = true := hh.2 ⟨o, HG.out⟩
  have xc : ∀ o, w1.cell? ⟨w.heap.size, o, none⟩ = #[.slice A ms.length c, .int .i64 a][o]? := (fun o => (hb.cell (p := ⟨w.heap.size, o, none⟩) (by simp <;> omega)).trans (by simp [go_sem])); have xf : ∀ o, w1.frozen? ⟨w.heap.size, o, none⟩ = false := (fun o => (hb.frozen (p := ⟨w.heap.size, o, none⟩) (by simp <;> omega)).trans (by simp [go_sem])); have xz : w.heap.size < w1.heap.size := (by have := hb.size; (try simp at this); omega); have xy := xz
  have yc : ∀ o, w1.cell? ⟨w.heap.size + 1, o, none⟩ = #[.slice none 0 0, .int .i64 0][o]? := (fun o => (hb.cell (p := ⟨w.heap.size + 1, o, none⟩) (by simp <;> omega)).trans (by simp [go_sem])); have yf : ∀ o, w1.frozen? ⟨w.heap.size + 1, o, none⟩ = false := (fun o => (hb.frozen (p := ⟨w.heap.size + 1, o, none⟩) (by simp <;> omega)).trans (by simp [go_sem])); have yz : w.heap.size + 1 < w1.heap.size := (by have := hb.size; (try simp at this); omega); have yy := yz
  have hW : Below w.heap.size w w1 := by exact bBel
  have hs1 : w.heap.size + 2 ≤ w1.heap.size := by omega
  clear hb hh T xy yy
  go_wp2_with fail
  refine (C.out _ (by exact bBel)).mono ?_
  rintro e w2 ⟨v2, rfl, ho2, hb⟩
  have hB : Below w1.heap.size w1 w2 := (by exact bBel); replace xc := up_c hB xz xc; replace xf := up_f hB xz xf; replace xz := Nat.lt_of_lt_of_le xz hB.size; replace yc := up_c hB yz yc; replace yf := up_f hB yz yf; replace yz := Nat.lt_of_lt_of_le yz hB.size; have sw2 := hB.size; replace hW := up_trans hW hB; clear hB
  have HO := Lib.hid (own_base ho2 hs1)
  obtain ⟨A2, c2, rfl, -, -⟩ := (RdL.of_own (f := moC) (bs := ms) ho2).form
  have hs2 : w.heap.size + 2 ≤ w2.heap.size := by have := hb.size; omega
  have HOL := Lib.hid (fun g hg => (HO.out.lt g hg).2)
  clear hb ho2 C hs1
  go_upto_region 4 with (fail)
  obtain ⟨w3, hw⟩ : ∃ z, z = w2.alloc (.cells #[.slice A2 ms.length c2, .int .i64 a] 25) := ⟨_, rfl⟩
  have hb : Below (w2.alloc (.cells #[.slice A2 ms.length c2, .int .i64 a] 25)).heap.size (w2.alloc (.cells #[.slice A2 ms.length c2, .int .i64 a] 25)) w3 := by rw [hw]; exact Below.refl _ _
  rw [← hw]
  have zc : ∀ o, w3.cell? ⟨w2.heap.size, o, none⟩ = #[.slice A2 ms.length c2, .int .i64 a][o]? := (fun o => (hb.cell (p := ⟨w2.heap.size, o, none⟩) (by simp <;> omega)).trans (by simp [go_sem])); have zf : ∀ o, w3.frozen? ⟨w2.heap.size, o, none⟩ = false := (fun o => (hb.frozen (p := ⟨w2.heap.size, o, none⟩) (by simp <;> omega)).trans (by simp [go_sem])); have zz : w2.heap.size < w3.heap.size := (by have := hb.size; (try simp at this); omega); have zy := zz
  have hB : Below w2.heap.size w2 w3 := by exact bBel
  replace xc := up_c hB xz xc
  replace xf := up_f hB xz xf
  replace yc := up_c hB yz yc
  replace yf := up_f hB yz yf
  replace xz := Nat.lt_of_lt_of_le xz hB.size
  replace yz := Nat.lt_of_lt_of_le yz hB.size
  replace hW := up_trans hW hB
  replace HO := Lib.hid (own_up HO.out hB)
  have HW := Lib.hid hW
  have HH := Lib.hid (H.out.up hW)
  have X := Lib.hid (show Is w3 w.heap.size #[.slice A ms.length c, .int .i64 a] from ⟨xc, xf⟩)
  have Y := Lib.hid (show Is w3 (w.heap.size + 1) #[.slice none 0 0, .int .i64 0] from ⟨yc, yf⟩)
  have Z := Lib.hid (show Is w3 w2.heap.size #[.slice A2 ms.length c2, .int .i64 a] from ⟨zc, zf⟩)
  have xc0 := xc 0
  simp only [List.getElem?_toArray, List.getElem?_cons_zero] at xc0
  clear hb hB hw hW H xc xf yc yf zc zf zy
  have e1 : ((ms.length - 1 : Nat) : Int) = (ms.length : Int) - 1 := by omega
  go_wp2_with fail
  go_loopw [8] (fun i wr => ∃ k : Nat, a ≤ k ∧ k < ms.length ∧ i = .int .i64 k ∧ Hid (F = foTo ms a (k + 1)) ∧ Hid (Below w3.heap.size w3 wr)) (fun i _ => (intOf i).toNat)
  case atStart => exact ⟨ms.length - 1, by omega, by omega, by first | (rw [e1]; done) | (rw [e1]; go_num), Lib.hid (by rw [← HFF.out]; rw [show ms.length - 1 + 1 = ms.length by omega]), Lib.hid (Below.refl _ _)⟩
  case round =>
    obtain ⟨k, hk1, hk2, rfl, HK, HB⟩ := hrel
    clear xc0
    have xI := X.out.up xz HB.out
    have x0 := xI.1 0
    have x1 := xI.1 1
    simp only [List.getElem?_toArray, List.getElem?_cons_zero, List.getElem?_cons_succ] at x0 x1
    clear xI
    have xz2 : w.heap.size < wr.heap.size := Nat.lt_of_lt_of_le xz HB.out.size
    by_cases hlt : a < k
    · have i1 : (0 : Int) ≤ (k : Int) := by omega
      have i2 : (k : Int) < (ms.length : Int) := by omega
      have i3 : (a : Int) < (k : Int) := by omega
      obtain ⟨m, hm⟩ : ∃ m, ms.getD k m0 = m := ⟨_, rfl⟩
      have HP := Lib.hid (fun (hp : m.par = a) w' => P.out k m w' hm (by omega) hk2 hp)
      obtain ⟨b, q, rfl, hb, q0, q1, q2, q3, q4, q5, q6⟩ := (HH.out.up HB.out).cells (k := k) hk2 hm
      have hst := Lib.hid (show foTo ms a (k + 1) = if m.par = a then (k : Int) else foTo ms a k by rw [← hm]; rfl)
      clear hm P
      obtain ⟨p, ⟨fa, fc, fp⟩, ⟨ba, bc, bp⟩⟩ := m
      simp only at q0 q1 q2 q3 q4 q5 q6 hst HP
      have hne : ¬ wr.heap.size = w.heap.size := by omega
      have hne' : ¬ w.heap.size = wr.heap.size := by omega
      by_cases hp : p = a
      · subst hp
        have HF : F = k := HK.out.trans (hst.out.trans (if_pos rfl))
        have HQ := Lib.hid (HP.out rfl)
        clear HP hst HK HFF
        have hi : inB F 0 ((ms.length : Int) - 1) = true := by rw [HF]; exact inB_iff.2 (by omega)
        obtain rfl : OK = true := HOK.out.symm.trans hi
        obtain rfl : TA = k := HTA.out.symm.trans (by unfold toAt; rw [hi, HF]; rfl)
        have et : o.getD k [] = TT := ((by unfold toText; rw [hi, HF, Int.toNat_natCast]; rfl : toText ms.length o s F = o.getD k [])).symm.trans HTT.out
        rw [et] at HQ
        clear hi HTA HTT HOK HF et
        have yI := Lib.hid (Y.out.up yz HB.out)
        have zI := Lib.hid (Z.out.up zz HB.out)
        have HWr := Lib.hid (up_trans HW.out HB.out)
        have HO2 := Lib.hid (own_up HO.out HB.out)
        have yz2 : w.heap.size + 1 < wr.heap.size := Nat.lt_of_lt_of_le yz HB.out.size
        have zz2 : w2.heap.size < wr.heap.size := Nat.lt_of_lt_of_le zz HB.out.size
        clear HO HW
        go_wp2_with fail
        go_region
        all_goals
          go_wp2_with fail
          refine (HQ.out _).mono ?_
          rintro e w5 ⟨rfl, hb2⟩
          have hb3 : Below wr.heap.size wr w5 := ⟨hb2.os, hb2.tape, hb2.output, hb2.size, hb2.block⟩
          obtain ⟨yc, yf⟩ := yI.out.up yz2 hb3
          obtain ⟨zc, zf⟩ := zI.out.up zz2 hb3
          have HW5 := Lib.hid (up_trans HWr.out hb3)
          have HO5 := Lib.hid (own_up HO2.out hb3)
          have yz5 : w.heap.size + 1 < w5.heap.size := Nat.lt_of_lt_of_le yz2 hb3.size
          have zz5 : w2.heap.size < w5.heap.size := Nat.lt_of_lt_of_le zz2 hb3.size
          have ne1 : ¬ w2.heap.size = w.heap.size + 1 := by omega
          have ne2 : ¬ w.heap.size + 1 = w2.heap.size := by omega
          clear hb2 hb3 HWr HO2 yI zI HQ q0 q1 q2 q3 q4 q5 q6 x0 x1
          go_wp2_with fail
          refine bodyPost_ret (v := .tuple #[.agg #[.slice A2 ms.length c2, .int .i64 k], S TT, .bool true]) (by simp [results, Tryz.results63, go_sem, yc]) rfl ⟨_, rfl, ?_, by have hQ := HW5.out; exact bBel⟩
          exact own_base (own_set (own_set (own_setn HO5.out ⟨w2.heap.size, 1, none⟩ (.int .i64 k) (fun g hg => by have := HOL.out g hg; simp; omega)) ⟨w.heap.size + 1, 0, none⟩ (.slice A2 ms.length c2) (by simp)) ⟨w.heap.size + 1, 1, none⟩ (.int .i64 k) (by simp)) (by omega)
      · have HF := Lib.hid (HK.out.trans (hst.out.trans (if_neg hp)))
        have hp2 : (p == (a : Int)) = false := beq_eq_false_iff_ne.2 hp
        have e2 : ((k - 1 : Nat) : Int) = (k : Int) - 1 := by omega
        have HF2 := Lib.hid (show F = foTo ms a (k - 1 + 1) by rw [show k - 1 + 1 = k by omega]; exact HF.out)
        clear hst hp HP HK HF
        go_wp2_with fail
        go_region
        all_goals
          go_wp2_with fail
          go_roundw
          case rel => exact ⟨k - 1, by omega, by omega, by first | (rw [e2]; done) | (rw [e2]; go_num), HF2, Lib.hid (have hQ := HB.out; by exact bBel)⟩
          case measure => simp [intOf]; omega
    · obtain rfl : k = a := by omega
      have HF : F = -1 := HK.out.trans (foTo_low HG.out)
      clear HK HFF
      have hi : inB F 0 ((ms.length : Int) - 1) = false := by
        rw [HF]
        rcases hh : inB (-1) 0 ((ms.length : Int) - 1) with _ | _
        · rfl
        · have := inB_iff.1 hh; omega
      obtain rfl : OK = false := HOK.out.symm.trans hi
      obtain rfl : TA = k := HTA.out.symm.trans (by unfold toAt; rw [hi]; rfl)
      obtain rfl : TT = s := HTT.out.symm.trans (by unfold toText; rw [hi]; rfl)
      clear hi HTA HTT HOK HF
      obtain ⟨yc, yf⟩ := Y.out.up yz HB.out
      obtain ⟨zc, zf⟩ := Z.out.up zz HB.out
      have HWr := Lib.hid (up_trans HW.out HB.out)
      have HO2 := Lib.hid (own_up HO.out HB.out)
      have yz2 : w.heap.size + 1 < wr.heap.size := Nat.lt_of_lt_of_le yz HB.out.size
      have ne1 : ¬ w2.heap.size = w.heap.size + 1 := by omega
      have ne2 : ¬ w.heap.size + 1 = w2.heap.size := by omega
      clear HO HW
      go_wp2_with fail
      refine bodyPost_ret (v := .tuple #[.agg #[.slice A2 ms.length c2, .int .i64 k], S TT, .bool false]) (by simp [results, Tryz.results63, go_sem, yc]) rfl ⟨_, rfl, ?_, by have hQ := HWr.out; exact bBel⟩
      exact own_base (own_set (own_set HO2.out _ _ (by simp)) _ _ (by simp)) (by omega)

end Go.Proofs.YtbjlkdenkmbepaaGreatDoor
