/- What is proved here: the walk of the law FnHistoryTo. No condition. -/
import Derived.Test.YtjcdklkdpcncgaaLH1
namespace Go.Proofs.Ytjcdklkdpcncgaa
open Go.RowKit
set_option linter.unusedVariables false

set_option maxRecDepth 100000 in
set_option maxHeartbeats 4000000 in
theorem historyTo_walk (v : Value) (n : Nat) (zs : List Int) (w : World) (h : Bytes w w.heap.size v n zs) :
    Calls Try.prog 8 #[v] w fun e w' => e = .returned (.bool true) ∧ Below w.heap.size w w' := by
  have h' := h
  obtain ⟨h1, h2, A0, c0, rfl, h3, h4, h5⟩ := h
  clear h5 h2 h1 h4
  by_cases hn : n ≤ 1048576
  case neg =>
    go_enter Try.func8, Try.ntmps8
    go_wp2_with fail
    go_ret
    exact ⟨rfl, Below.refl _ _⟩
  have hW := Below.refl w.heap.size w
  go_enter Try.func8, Try.ntmps8
  go_wp2_with fail
  refine (drawHistoryTo_any _ n zs _ (h'.to (by (repeat (first | exact Below.refl _ _ | assumption | refine Below.drew ?_ | refine up_drewN ?_ _ | refine up_alloc ?_ _ | refine up_set ?_ _ _ (by first | exact Nat.le_refl _ | (simp; done) | (simp; omega) | omega) | refine up_trans ?_ (by assumption)))))).mono ?_
  rintro e w1 ⟨hv, ms, a, s, to_, rfl, H, hl, hs, hb⟩
  have hB : Below w.heap.size w w1 := (by (repeat (first | exact Below.refl _ _ | assumption | refine Below.drew ?_ | refine up_drewN ?_ _ | refine up_alloc ?_ _ | refine up_set ?_ _ _ (by first | exact Nat.le_refl _ | (simp; done) | (simp; omega) | omega) | refine up_trans ?_ (by assumption)))); have sw1 := hB.size; replace hW := up_trans hW hB; clear hB
  obtain ⟨A, c, rfl, -, -⟩ := H.1.form
  have HH := Lib.hid H
  have hpt : PutsLe 1048576 ms := H.2
  obtain ⟨ms2, a2, t2, ok, hp2, fI, fS, hcase⟩ := to_out2 ms a s to_ hl hs hpt
  have FI := Lib.hid fI
  have FS := Lib.hid fS
  clear hb h' H fI fS hpt
  go_wp2_with fail
  refine (FI.out _ _ (HH.out.up (by (repeat (first | exact Below.refl _ _ | assumption | refine Below.drew ?_ | refine up_drewN ?_ _ | refine up_alloc ?_ _ | refine up_set ?_ _ _ (by first | exact Nat.le_refl _ | (simp; done) | (simp; omega) | omega) | refine up_trans ?_ (by assumption)))))).mono ?_
  rintro e w2 ⟨xv, rfl, ho2, hb⟩
  have hc : ∀ o, w2.cell? ⟨w1.heap.size, o, none⟩ = #[.slice A ms.length c, .int .i64 a][o]? := (fun o => (hb.cell (p := ⟨w1.heap.size, o, none⟩) (by simp <;> omega)).trans (by simp [go_sem])); have hf : ∀ o, w2.frozen? ⟨w1.heap.size, o, none⟩ = false := (fun o => (hb.frozen (p := ⟨w1.heap.size, o, none⟩) (by simp <;> omega)).trans (by simp [go_sem])); have hz : w1.heap.size < w2.heap.size := (by have := hb.size; (try simp at this); omega); have hy := hz
  replace HH := RdM.hup HH (show Below w1.heap.size w1 w2 by (repeat (first | exact Below.refl _ _ | assumption | refine Below.drew ?_ | refine up_drewN ?_ _ | refine up_alloc ?_ _ | refine up_set ?_ _ _ (by first | exact Nat.le_refl _ | (simp; done) | (simp; omega) | omega) | refine up_trans ?_ (by assumption))))
  have hB : Below w1.heap.size w1 w2 := (by (repeat (first | exact Below.refl _ _ | assumption | refine Below.drew ?_ | refine up_drewN ?_ _ | refine up_alloc ?_ _ | refine up_set ?_ _ _ (by first | exact Nat.le_refl _ | (simp; done) | (simp; omega) | omega) | refine up_trans ?_ (by assumption)))); have sw2 := hB.size; replace hW := up_trans hW hB; clear hB
  have RX := Lib.hid (rdM_puts ho2 hp2 (Nat.le_refl _))
  obtain ⟨XA, XC, rfl, -, -⟩ := (RdL.of_own (f := moC) (bs := ms2) ho2).form
  clear hb ho2
  go_wp2_with fail
  refine (FS.out _ _ (HH.out.up (by (repeat (first | exact Below.refl _ _ | assumption | refine Below.drew ?_ | refine up_drewN ?_ _ | refine up_alloc ?_ _ | refine up_set ?_ _ _ (by first | exact Nat.le_refl _ | (simp; done) | (simp; omega) | omega) | refine up_trans ?_ (by assumption)))))).mono ?_
  rintro e w3 ⟨yv, rfl, ho3, hb⟩
  have xc : ∀ o, w3.cell? ⟨w2.heap.size, o, none⟩ = #[.slice XA ms2.length XC, .int .i64 a2][o]? := (fun o => (hb.cell (p := ⟨w2.heap.size, o, none⟩) (by simp <;> omega)).trans (by simp [go_sem])); have xf : ∀ o, w3.frozen? ⟨w2.heap.size, o, none⟩ = false := (fun o => (hb.frozen (p := ⟨w2.heap.size, o, none⟩) (by simp <;> omega)).trans (by simp [go_sem])); have xz : w2.heap.size < w3.heap.size := (by have := hb.size; (try simp at this); omega); have xy := xz
  have hB3 : Below w2.heap.size w2 w3 := by (repeat (first | exact Below.refl _ _ | assumption | refine Below.drew ?_ | refine up_drewN ?_ _ | refine up_alloc ?_ _ | refine up_set ?_ _ _ (by first | exact Nat.le_refl _ | (simp; done) | (simp; omega) | omega) | refine up_trans ?_ (by assumption)))
  replace HH := RdM.hup HH hB3
  replace RX := RdM.hup RX hB3
  have hB : Below w2.heap.size w2 w3 := (by (repeat (first | exact Below.refl _ _ | assumption | refine Below.drew ?_ | refine up_drewN ?_ _ | refine up_alloc ?_ _ | refine up_set ?_ _ _ (by first | exact Nat.le_refl _ | (simp; done) | (simp; omega) | omega) | refine up_trans ?_ (by assumption)))); replace hc := up_c hB hz hc; replace hf := up_f hB hz hf; replace hz := Nat.lt_of_lt_of_le hz hB.size; have sw3 := hB.size; replace hW := up_trans hW hB; clear hB
  have RY := Lib.hid (rdM_puts ho3 hp2 (Nat.le_refl _))
  obtain ⟨YA, YC, rfl, -, -⟩ := (RdL.of_own (f := moC) (bs := ms2) ho3).form
  have sx : ¬ w3.heap.size = w2.heap.size := by omega
  have sx' : ¬ w2.heap.size = w3.heap.size := by omega
  clear hb ho3 hB3
  go_wp2_with fail
  refine (sameHistory_same _ _ ms2 a2 _ (RX.out.up (by (repeat (first | exact Below.refl _ _ | assumption | refine Below.drew ?_ | refine up_drewN ?_ _ | refine up_alloc ?_ _ | refine up_set ?_ _ _ (by first | exact Nat.le_refl _ | (simp; done) | (simp; omega) | omega) | refine up_trans ?_ (by assumption))))) (RY.out.up (by (repeat (first | exact Below.refl _ _ | assumption | refine Below.drew ?_ | refine up_drewN ?_ _ | refine up_alloc ?_ _ | refine up_set ?_ _ _ (by first | exact Nat.le_refl _ | (simp; done) | (simp; omega) | omega) | refine up_trans ?_ (by assumption)))))).mono ?_
  rintro e w4 ⟨rfl, hb⟩
  have hB4 : Below w3.heap.size w3 w4 := by (repeat (first | exact Below.refl _ _ | assumption | refine Below.drew ?_ | refine up_drewN ?_ _ | refine up_alloc ?_ _ | refine up_set ?_ _ _ (by first | exact Nat.le_refl _ | (simp; done) | (simp; omega) | omega) | refine up_trans ?_ (by assumption)))
  replace HH := RdM.hup HH hB4
  replace RX := RdM.hup RX hB4
  have hB : Below w3.heap.size w3 w4 := (by (repeat (first | exact Below.refl _ _ | assumption | refine Below.drew ?_ | refine up_drewN ?_ _ | refine up_alloc ?_ _ | refine up_set ?_ _ _ (by first | exact Nat.le_refl _ | (simp; done) | (simp; omega) | omega) | refine up_trans ?_ (by assumption)))); replace hc := up_c hB hz hc; replace hf := up_f hB hz hf; replace hz := Nat.lt_of_lt_of_le hz hB.size; replace xc := up_c hB xz xc; replace xf := up_f hB xz xf; replace xz := Nat.lt_of_lt_of_le xz hB.size; have sw4 := hB.size; replace hW := up_trans hW hB; clear hB
  clear hb RY hB4 FI FS
  rcases hcase with ⟨_, rfl, rfl, rfl, rfl⟩ | ⟨hn1, rfl, rfl, rfl, rfl⟩ | ⟨rfl, rfl, rfl, o, hg, hg2⟩
  · simp only [List.length_nil] at RX xc ⊢
    go_wp2_with fail
    refine (alive_any _).mono ?_
    rintro e w5 ⟨rfl, rfl⟩
    go_wp2_with fail
    go_ret
    exact ⟨rfl, hW⟩
  · have i3 : ((ms2.length : Int) == 0) = false := beq_eq_false_iff_ne.2 (by omega)
    go_wp2_with fail
    refine (sameHistory_same _ _ ms2 a2 _ RX.out HH.out).mono ?_
    rintro e w5 ⟨rfl, hb⟩
    replace hW := up_trans hW hb
    clear hb
    go_wp2_with fail
    refine (alive_any _).mono ?_
    rintro e w6 ⟨rfl, rfl⟩
    go_wp2_with fail
    go_ret
    exact ⟨rfl, hW⟩
  · obtain ⟨k, rfl⟩ : ∃ k : Nat, a = k := ⟨a.toNat, by have := hg.a0; omega⟩
    have FT := Lib.hid (fun v w h => to_out ms2 k s o to_ t2 hg hg2 v w h)
    have LA := Lib.hid (fun v w h (j : Int) => implHistoryTo_yes v ms2 k s j w o h hg)
    have LB := Lib.hid (fun v w h (j : Int) => implHistoryTo_yes v ms2 to_ t2 j w o h hg2)
    have G2 := Lib.hid hg2
    have HL := Lib.hid (show ms2.length ≤ 1048576 by have := hg.n30; omega)
    clear hg hg2
    go_wp2_with fail
    refine (FT.out _ _ RX.out).mono ?_
    rintro e w5 ⟨bv, rfl, ho5, hb⟩
    replace HH := RdM.hup HH hb
    replace RX := RdM.hup RX hb
    have hB : Below w4.heap.size w4 w5 := (by (repeat (first | exact Below.refl _ _ | assumption | refine Below.drew ?_ | refine up_drewN ?_ _ | refine up_alloc ?_ _ | refine up_set ?_ _ _ (by first | exact Nat.le_refl _ | (simp; done) | (simp; omega) | omega) | refine up_trans ?_ (by assumption)))); replace hc := up_c hB hz hc; replace hf := up_f hB hz hf; replace hz := Nat.lt_of_lt_of_le hz hB.size; replace xc := up_c hB xz xc; replace xf := up_f hB xz xf; replace xz := Nat.lt_of_lt_of_le xz hB.size; have sw5 := hB.size; replace hW := up_trans hW hB; clear hB
    have RB := Lib.hid (rdM_puts ho5 hp2 (Nat.le_refl _))
    obtain ⟨BA, BC, rfl, -, -⟩ := (RdL.of_own (f := moC) (bs := ms2) ho5).form
    clear hb ho5 FT
    have hln := HL.out
    clear HL
    have sx1 : w1.heap.size < w5.heap.size := by omega
    have sx2 : w2.heap.size < w5.heap.size := by omega
    go_upto_region 11 with (fail)
    obtain ⟨w6, hw6⟩ : ∃ z, z = w5.alloc (.cells #[.slice BA ms2.length BC, .int .i64 k] 28) := ⟨_, rfl⟩
    have hb : Below (w5.alloc (.cells #[.slice BA ms2.length BC, .int .i64 k] 28)).heap.size (w5.alloc (.cells #[.slice BA ms2.length BC, .int .i64 k] 28)) w6 := by rw [hw6]; exact Below.refl _ _
    rw [← hw6]
    have qc : ∀ o, w6.cell? ⟨w5.heap.size, o, none⟩ = #[.slice BA ms2.length BC, .int .i64 k][o]? := (fun o => (hb.cell (p := ⟨w5.heap.size, o, none⟩) (by simp <;> omega)).trans (by simp [go_sem])); have qf : ∀ o, w6.frozen? ⟨w5.heap.size, o, none⟩ = false := (fun o => (hb.frozen (p := ⟨w5.heap.size, o, none⟩) (by simp <;> omega)).trans (by simp [go_sem])); have qz : w5.heap.size < w6.heap.size := (by have := hb.size; (try simp at this); omega); have qy := qz
    have hB6 : Below w5.heap.size w5 w6 := by (repeat (first | exact Below.refl _ _ | assumption | refine Below.drew ?_ | refine up_drewN ?_ _ | refine up_alloc ?_ _ | refine up_set ?_ _ _ (by first | exact Nat.le_refl _ | (simp; done) | (simp; omega) | omega) | refine up_trans ?_ (by assumption)))
    replace HH := RdM.hup HH hB6
    replace RX := RdM.hup RX hB6
    replace RB := RdM.hup RB hB6
    have hB : Below w5.heap.size w5 w6 := (by (repeat (first | exact Below.refl _ _ | assumption | refine Below.drew ?_ | refine up_drewN ?_ _ | refine up_alloc ?_ _ | refine up_set ?_ _ _ (by first | exact Nat.le_refl _ | (simp; done) | (simp; omega) | omega) | refine up_trans ?_ (by assumption)))); replace hc := up_c hB hz hc; replace hf := up_f hB hz hf; replace hz := Nat.lt_of_lt_of_le hz hB.size; replace xc := up_c hB xz xc; replace xf := up_f hB xz xf; replace xz := Nat.lt_of_lt_of_le xz hB.size; have sw6 := hB.size; replace hW := up_trans hW hB; clear hB
    have HK := Lib.hid (And.intro hc (And.intro xc qc))
    have HW := Lib.hid hW
    clear hb hw6 hB6 hc hf xc xf qc qf hW hy xy qy
    go_wp2_with fail
    go_loopw [15] (fun i wr => ∃ j : Nat, j ≤ ms2.length ∧ i = .int .i64 j ∧ Hid (Below w6.heap.size w6 wr)) (fun i _ => ms2.length - (intOf i).toNat)
    case atStart => exact ⟨0, Nat.zero_le _, rfl, Lib.hid (Below.refl _ _)⟩
    case round =>
      obtain ⟨j, hj, rfl, HR⟩ := hrel
      have hc := up_c HR.out hz HK.out.1
      have xc := up_c HR.out xz HK.out.2.1
      have qc := up_c HR.out qz HK.out.2.2
      have H1 := RdM.hup HH HR.out
      have X1 := RdM.hup RX HR.out
      have swr := HR.out.size
      by_cases hlt : j < ms2.length
      · have i1 : (j : Int) < (ms2.length : Int) := by omega
        have hi : inB (j : Int) 0 ((ms2.length : Int) - 1) = true := inB_iff.2 ⟨by omega, by omega⟩
        have e1 := Lib.hid (show toText ms2.length o s (j : Int) = o.getD j [] by unfold toText; rw [hi, if_pos rfl, Int.toNat_natCast])
        have e2 := Lib.hid (show toText ms2.length o t2 (j : Int) = o.getD j [] by unfold toText; rw [hi, if_pos rfl, Int.toNat_natCast])
        have L1 := Lib.hid (fun v w h => LA.out v w h (j : Int))
        have L2 := Lib.hid (fun v w h => LB.out v w h (j : Int))
        rw [e1.out] at L1
        rw [e2.out] at L2
        generalize o.getD j [] = tj at L1 L2
        generalize toAt ms2.length (k : Int) (j : Int) = p1 at L1
        generalize toAt ms2.length to_ (j : Int) = p2 at L2
        generalize inB (j : Int) 0 ((ms2.length : Int) - 1) = ok1 at L1 L2
        clear hi e1 e2 LA LB
        go_wp2_with fail
        refine (L1.out _ _ H1.out).mono ?_
        rintro e w7 ⟨u1, rfl, ho7, hb⟩
        obtain ⟨UA, UC, rfl, -, -⟩ := (RdL.of_own (f := moC) (bs := ms2) ho7).form
        have HR7 := Lib.hid (up_trans HR.out (show Below wr.heap.size wr w7 by (repeat (first | exact Below.refl _ _ | assumption | refine Below.drew ?_ | refine up_drewN ?_ _ | refine up_alloc ?_ _ | refine up_set ?_ _ _ (by first | exact Nat.le_refl _ | (simp; done) | (simp; omega) | omega) | refine up_trans ?_ (by assumption)))))
        have xc7 := up_c hb (by omega) xc
        have X7 := RdM.hup X1 hb
        have sw7 := hb.size
        clear hb ho7 hc qc xc H1 L1
        have sy1 : ¬ w7.heap.size = w2.heap.size := by omega
        have xz7 : w2.heap.size < w7.heap.size := by omega
        have sy2 : ¬ w2.heap.size = w7.heap.size := by omega
        go_wp2_with fail
        refine (L2.out _ _ (X7.out.up (by (repeat (first | exact Below.refl _ _ | assumption | refine Below.drew ?_ | refine up_drewN ?_ _ | refine up_alloc ?_ _ | refine up_set ?_ _ _ (by first | exact Nat.le_refl _ | (simp; done) | (simp; omega) | omega) | refine up_trans ?_ (by assumption)))))).mono ?_
        rintro e w8 ⟨u2, rfl, ho8, hb⟩
        obtain ⟨TA, TC, rfl, -, -⟩ := (RdL.of_own (f := moC) (bs := ms2) ho8).form
        have HR8 := Lib.hid (up_alloc (up_trans HR7.out (show Below w7.heap.size w7 w8 by (repeat (first | exact Below.refl _ _ | assumption | refine Below.drew ?_ | refine up_drewN ?_ _ | refine up_alloc ?_ _ | refine up_set ?_ _ _ (by first | exact Nat.le_refl _ | (simp; done) | (simp; omega) | omega) | refine up_trans ?_ (by assumption))))) (.cells #[.slice TA ms2.length TC, .int .i64 p2] 28))
        clear hb ho8 L2 xc7 X7 HR7
        go_wp2_with fail
        go_roundw
        case rel => exact ⟨j + 1, by omega, by go_num, HR8⟩
        case measure => simp [intOf]; omega
      · obtain rfl : j = ms2.length := by omega
        have X2 := X1
        have B2 := RdM.hup RB HR.out
        have hW := up_trans HW.out HR.out
        clear LA LB HK RX RB HH
        go_wp2_with fail
        refine (implValid_yes _ ms2 to_ t2 o _ X2.out G2.out).mono ?_
        rintro e w7 ⟨rfl, hb⟩
        replace B2 := RdM.hup B2 hb
        have H2 := RdM.hup H1 hb
        have hc7 := up_c hb (by omega) hc
        have xc7 := up_c hb (by omega) xc
        have qc7 := up_c hb (by omega) qc
        have hW7 := up_trans hW hb
        clear hb hc xc qc X1 X2 H1 hW
        go_wp2_with fail
        refine (sameHistory_same _ _ ms2 k _ B2.out H2.out).mono ?_
        rintro e w8 ⟨rfl, hb⟩
        have hW8 := up_trans hW7 hb
        clear hb
        go_wp2_with fail
        go_ret
        exact ⟨rfl, hW8⟩

end Go.Proofs.Ytjcdklkdpcncgaa
