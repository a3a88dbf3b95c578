/- What is proved here: contracts of the reference's HistoryBack. No condition. -/
import Derived.Test.YtjcdklkdpcncgaaHistR
namespace Go.Proofs.Ytjcdklkdpcncgaa
open Go.RowKit
set_option linter.unusedVariables false

set_option maxRecDepth 100000 in
set_option maxHeartbeats 1000000 in
theorem specHistoryBack_no (v : Value) (ms : List Mo) (a : Int) (s : List UInt8) (w : World) (h : RdM w v ms) (hn : ms.length ≤ 1048576) (hs : s.length ≤ maxLen) (hg : ¬ ∃ o, HGood ms a s o) :
    Calls Try.prog 26 #[.agg #[v, .int .i64 a], S s] w (HRes [] 0 [] false w) := by
  obtain ⟨A, c, rfl, _, _⟩ := h.1.form
  have T := Lib.hid (fun (w' : World) (hb : Below w.heap.size w w') => specHistoryValid_any (.slice A ms.length c) ms a s w' (h.up hb) hn hs)
  have HG := Lib.hid hg
  clear h hg
  go_enter Try.func26, Try.ntmps26
  go_wp2_with fail
  refine (T.out _ (by (repeat (first | exact Below.refl _ _ | assumption | refine Below.drew ?_ | refine up_drewN ?_ _ | refine up_alloc ?_ _ | refine up_set ?_ _ _ (by first | exact Nat.le_refl _ | (simp; done) | (simp; omega) | omega) | refine up_trans ?_ (by assumption))))).mono ?_
  rintro e w1 ⟨ok, rfl, hh, hb⟩
  obtain rfl : ok = false := by rcases ok with _ | _; rfl; exact absurd (hh.1 rfl) HG.out
  have yc : ∀ o, w1.cell? ⟨w.heap.size + 1, o, none⟩ = #[.slice none 0 0, .int .i64 0][o]? := (fun o => (hb.cell (p := ⟨w.heap.size + 1, o, none⟩) (by simp <;> omega)).trans (by simp [go_sem])); have yf : ∀ o, w1.frozen? ⟨w.heap.size + 1, o, none⟩ = false := (fun o => (hb.frozen (p := ⟨w.heap.size + 1, o, none⟩) (by simp <;> omega)).trans (by simp [go_sem])); have yz : w.heap.size + 1 < w1.heap.size := (by have := hb.size; (try simp at this); omega); have yy := yz
  have hW : Below w.heap.size w w1 := by (repeat (first | exact Below.refl _ _ | assumption | refine Below.drew ?_ | refine up_drewN ?_ _ | refine up_alloc ?_ _ | refine up_set ?_ _ _ (by first | exact Nat.le_refl _ | (simp; done) | (simp; omega) | omega) | refine up_trans ?_ (by assumption)))
  clear hb hh T
  go_wp2_with fail
  refine bodyPost_ret (v := .tuple #[.agg #[.slice none 0 0, .int .i64 0], S [], .bool false]) (by simp [results, Try.results26, go_sem, yc]) rfl (hres_no (by (repeat (first | exact Below.refl _ _ | assumption | refine Below.drew ?_ | refine up_drewN ?_ _ | refine up_alloc ?_ _ | refine up_set ?_ _ _ (by first | exact Nat.le_refl _ | (simp; done) | (simp; omega) | omega) | refine up_trans ?_ (by assumption)))))

set_option maxRecDepth 100000 in
set_option maxHeartbeats 1000000 in
theorem specHistoryBack_zero (v : Value) (ms : List Mo) (s : List UInt8) (w : World) (o : List (List UInt8)) (h : RdM w v ms) (hg : HGood ms 0 s o) :
    Calls Try.prog 26 #[.agg #[v, .int .i64 0], S s] w (HRes ms 0 s false w) := by
  have hn30 := hg.n30
  have hn1 := hg.n1
  have hsl := tv_len hg.t
  obtain ⟨A, c, rfl, _, _⟩ := h.1.form
  have H := Lib.hid h
  have T := Lib.hid (fun (w' : World) (hb : Below w.heap.size w w') => specHistoryValid_any (.slice A ms.length c) ms 0 s w' (h.up hb) (by omega) (by unfold maxLen; omega))
  have C := Lib.hid (fun (w' : World) (hb : Below w.heap.size w w') => l9Copy_any (.slice A ms.length c) ms 0 w' (h.up hb) (by omega))
  have HG := Lib.hid hg
  clear h hg
  have i2 : (0 : Int) < (ms.length : Int) := by omega
  go_enter Try.func26, Try.ntmps26
  go_wp2_with fail
  refine (T.out _ (by (repeat (first | exact Below.refl _ _ | assumption | refine Below.drew ?_ | refine up_drewN ?_ _ | refine up_alloc ?_ _ | refine up_set ?_ _ _ (by first | exact Nat.le_refl _ | (simp; done) | (simp; omega) | omega) | refine up_trans ?_ (by assumption))))).mono ?_
  rintro e w1 ⟨ok, rfl, hh, hb⟩
  obtain rfl : ok = true := hh.2 ⟨o, HG.out⟩
  have xc : ∀ o, w1.cell? ⟨w.heap.size, o, none⟩ = #[.slice A ms.length c, .int .i64 0][o]? := (fun o => (hb.cell (p := ⟨w.heap.size, o, none⟩) (by simp <;> omega)).trans (by simp [go_sem])); have xf : ∀ o, w1.frozen? ⟨w.heap.size, o, none⟩ = false := (fun o => (hb.frozen (p := ⟨w.heap.size, o, none⟩) (by simp <;> omega)).trans (by simp [go_sem])); have xz : w.heap.size < w1.heap.size := (by have := hb.size; (try simp at this); omega); have xy := xz
  have yc : ∀ o, w1.cell? ⟨w.heap.size + 1, o, none⟩ = #[.slice none 0 0, .int .i64 0][o]? := (fun o => (hb.cell (p := ⟨w.heap.size + 1, o, none⟩) (by simp <;> omega)).trans (by simp [go_sem])); have yf : ∀ o, w1.frozen? ⟨w.heap.size + 1, o, none⟩ = false := (fun o => (hb.frozen (p := ⟨w.heap.size + 1, o, none⟩) (by simp <;> omega)).trans (by simp [go_sem])); have yz : w.heap.size + 1 < w1.heap.size := (by have := hb.size; (try simp at this); omega); have yy := yz
  have hW : Below w.heap.size w w1 := by (repeat (first | exact Below.refl _ _ | assumption | refine Below.drew ?_ | refine up_drewN ?_ _ | refine up_alloc ?_ _ | refine up_set ?_ _ _ (by first | exact Nat.le_refl _ | (simp; done) | (simp; omega) | omega) | refine up_trans ?_ (by assumption)))
  have hs1 : w.heap.size + 2 ≤ w1.heap.size := by omega
  clear hb hh T xy yy
  go_wp2_with fail
  refine (C.out _ (by (repeat (first | exact Below.refl _ _ | assumption | refine Below.drew ?_ | refine up_drewN ?_ _ | refine up_alloc ?_ _ | refine up_set ?_ _ _ (by first | exact Nat.le_refl _ | (simp; done) | (simp; omega) | omega) | refine up_trans ?_ (by assumption))))).mono ?_
  rintro e w2 ⟨v2, rfl, ho2, hb⟩
  have hB : Below w1.heap.size w1 w2 := (by (repeat (first | exact Below.refl _ _ | assumption | refine Below.drew ?_ | refine up_drewN ?_ _ | refine up_alloc ?_ _ | refine up_set ?_ _ _ (by first | exact Nat.le_refl _ | (simp; done) | (simp; omega) | omega) | refine up_trans ?_ (by assumption)))); replace xc := up_c hB xz xc; replace xf := up_f hB xz xf; replace xz := Nat.lt_of_lt_of_le xz hB.size; replace yc := up_c hB yz yc; replace yf := up_f hB yz yf; replace yz := Nat.lt_of_lt_of_le yz hB.size; have sw2 := hB.size; replace hW := up_trans hW hB; clear hB
  have HO := Lib.hid (own_base ho2 hs1)
  obtain ⟨A2, c2, rfl, -, -⟩ := (RdL.of_own (f := moC) (bs := ms) ho2).form
  have ne1 : ¬ w2.heap.size = w.heap.size := by omega
  have ne2 : ¬ w2.heap.size = w.heap.size + 1 := by omega
  have ne3 : ¬ w.heap.size = w2.heap.size := by omega
  have ne4 : ¬ w.heap.size + 1 = w2.heap.size := by omega
  have ne5 : ¬ w2.heap.size + 1 = w.heap.size := by omega
  have ne6 : ¬ w2.heap.size + 1 = w.heap.size + 1 := by omega
  have ne7 : ¬ w.heap.size = w2.heap.size + 1 := by omega
  have ne8 : ¬ w.heap.size + 1 = w2.heap.size + 1 := by omega
  obtain ⟨m, hm⟩ : ∃ m, ms.getD 0 m0 = m := ⟨_, rfl⟩
  obtain ⟨b, q, rfl, hbb, q0, q1, q2, q3, q4, q5, q6⟩ := (H.out.up hW).cells (k := 0) (by omega) hm
  clear hm
  obtain ⟨p, ⟨fa, fc, fp⟩, ⟨ba, bc, bp⟩⟩ := m
  simp only [Nat.zero_mul, Nat.add_zero] at q0 q1 q2 q3 q4 q5 q6
  have hbn : ¬ b = w2.heap.size := by omega
  have hbn2 : ¬ w2.heap.size = b := by omega
  have hs2 : w.heap.size + 2 ≤ w2.heap.size := by have := hb.size; omega
  clear hb ho2 C
  go_upto_region 5 with (fail)
  obtain ⟨w3, hw⟩ : ∃ z, z = (w2.alloc (.cells #[.slice A2 ms.length c2, .int .i64 0] 28)).alloc (.cells #[.int .i64 p, .int .i64 fa, .int .i64 fc, S fp, .int .i64 ba, .int .i64 bc, S bp] 56) := ⟨_, rfl⟩
  have hb : Below ((w2.alloc (.cells #[.slice A2 ms.length c2, .int .i64 0] 28)).alloc (.cells #[.int .i64 p, .int .i64 fa, .int .i64 fc, S fp, .int .i64 ba, .int .i64 bc, S bp] 56)).heap.size ((w2.alloc (.cells #[.slice A2 ms.length c2, .int .i64 0] 28)).alloc (.cells #[.int .i64 p, .int .i64 fa, .int .i64 fc, S fp, .int .i64 ba, .int .i64 bc, S bp] 56)) w3 := by rw [hw]; exact Below.refl _ _
  rw [← hw]
  have zc : ∀ o, w3.cell? ⟨w2.heap.size, o, none⟩ = #[.slice A2 ms.length c2, .int .i64 0][o]? := (fun o => (hb.cell (p := ⟨w2.heap.size, o, none⟩) (by simp <;> omega)).trans (by simp [go_sem])); have zf : ∀ o, w3.frozen? ⟨w2.heap.size, o, none⟩ = false := (fun o => (hb.frozen (p := ⟨w2.heap.size, o, none⟩) (by simp <;> omega)).trans (by simp [go_sem])); have zz : w2.heap.size < w3.heap.size := (by have := hb.size; (try simp at this); omega); have zy := zz
  have xd : w.heap.size < w3.heap.size := by have := hb.size; simp at this; omega
  have hB : Below w2.heap.size w2 w3 := by (repeat (first | exact Below.refl _ _ | assumption | refine Below.drew ?_ | refine up_drewN ?_ _ | refine up_alloc ?_ _ | refine up_set ?_ _ _ (by first | exact Nat.le_refl _ | (simp; done) | (simp; omega) | omega) | refine up_trans ?_ (by assumption)))
  replace xc := up_c hB xz xc
  replace yc := up_c hB yz yc
  replace yf := up_f hB yz yf
  replace yz := Nat.lt_of_lt_of_le yz hB.size
  replace hW := up_trans hW hB
  replace HO := Lib.hid (own_up HO.out hB)
  clear hb hB hw xz q0 q1 q2 q3 q4 q5 q6
  go_wp2_with fail
  refine bodyPost_ret (v := .tuple #[.agg #[.slice A2 ms.length c2, .int .i64 0], S s, .bool false]) (by simp [results, Try.results26, go_sem, yc]) rfl ⟨_, rfl, ?_, by (repeat (first | exact Below.refl _ _ | assumption | refine Below.drew ?_ | refine up_drewN ?_ _ | refine up_alloc ?_ _ | refine up_set ?_ _ _ (by first | exact Nat.le_refl _ | (simp; done) | (simp; omega) | omega) | refine up_trans ?_ (by assumption)))⟩
  exact own_base (own_set (own_set HO.out _ _ (by simp)) _ _ (by simp)) (by omega)

set_option maxRecDepth 100000 in
set_option maxHeartbeats 1000000 in
theorem specHistoryBack_pos (v : Value) (ms : List Mo) (a : Nat) (s : List UInt8) (w : World) (o : List (List UInt8)) (h : RdM w v ms) (hg : HGood ms a s o) (ha0 : 0 < a) :
    Calls Try.prog 26 #[.agg #[v, .int .i64 a], S s] w (HRes ms (ms.getD a m0).par (o.getD (ms.getD a m0).par.toNat []) true w) := by
  have hn30 := hg.n30
  have ha := hg.a1
  have hsl := tv_len hg.t
  obtain ⟨hp0, hp1, hok, hap⟩ := hg.back ha0 (by omega)
  have hat := hg.at_
  rw [Int.toNat_natCast] at hat
  rw [hat] at hok hap
  have hpl := (hg.put (k := a) (by omega)).2
  obtain ⟨A, c, rfl, _, _⟩ := h.1.form
  have H := Lib.hid h
  have T := Lib.hid (fun (w' : World) (hb : Below w.heap.size w w') => specHistoryValid_any (.slice A ms.length c) ms a s w' (h.up hb) (by omega) (by unfold maxLen; omega))
  have C := Lib.hid (fun (w' : World) (hb : Below w.heap.size w w') => l9Copy_any (.slice A ms.length c) ms a w' (h.up hb) (by omega))
  have HG := Lib.hid hg
  clear h hg hat
  rw [hap]
  clear hap
  generalize hm : ms.getD a m0 = m at *
  obtain ⟨p, ⟨fa, fc, fp⟩, ⟨ba, bc, bp⟩⟩ := m
  have HM := Lib.hid hm
  clear hm
  simp only at hp0 hp1 hok hpl ⊢
  have P := Lib.hid (fun w' => specApplyChange_any s ba bc bp w' (by unfold maxLen; omega) (by omega))
  have hco : chOk s ba bc bp = true := hok
  have hto : apTo s ba bc bp = apF s ⟨ba, bc, bp⟩ := by unfold apTo apF; rw [if_pos hco]
  unfold AcPost at P
  rw [hco, hto] at P
  generalize apF s ⟨ba, bc, bp⟩ = y at *
  clear hok hpl hco hto
  have i1 : (0 : Int) ≤ (a : Int) := by omega
  have i2 : (a : Int) < (ms.length : Int) := by omega
  have i3 : ((a : Int) == 0) = false := beq_eq_false_iff_ne.2 (by omega)
  go_enter Try.func26, Try.ntmps26
  go_wp2_with fail
  refine (T.out _ (by (repeat (first | exact Below.refl _ _ | assumption | refine Below.drew ?_ | refine up_drewN ?_ _ | refine up_alloc ?_ _ | refine up_set ?_ _ _ (by first | exact Nat.le_refl _ | (simp; done) | (simp; omega) | omega) | refine up_trans ?_ (by assumption))))).mono ?_
  rintro e w1 ⟨ok, rfl, hh, hb⟩
  obtain rfl : ok = true := hh.2 ⟨o, HG.out⟩
  have xc : ∀ o, w1.cell? ⟨w.heap.size, o, none⟩ = #[.slice A ms.length c, .int .i64 a][o]? := (fun o => (hb.cell (p := ⟨w.heap.size, o, none⟩) (by simp <;> omega)).trans (by simp [go_sem])); have xf : ∀ o, w1.frozen? ⟨w.heap.size, o, none⟩ = false := (fun o => (hb.frozen (p := ⟨w.heap.size, o, none⟩) (by simp <;> omega)).trans (by simp [go_sem])); have xz : w.heap.size < w1.heap.size := (by have := hb.size; (try simp at this); omega); have xy := xz
  have yc : ∀ o, w1.cell? ⟨w.heap.size + 1, o, none⟩ = #[.slice none 0 0, .int .i64 0][o]? := (fun o => (hb.cell (p := ⟨w.heap.size + 1, o, none⟩) (by simp <;> omega)).trans (by simp [go_sem])); have yf : ∀ o, w1.frozen? ⟨w.heap.size + 1, o, none⟩ = false := (fun o => (hb.frozen (p := ⟨w.heap.size + 1, o, none⟩) (by simp <;> omega)).trans (by simp [go_sem])); have yz : w.heap.size + 1 < w1.heap.size := (by have := hb.size; (try simp at this); omega); have yy := yz
  have hW : Below w.heap.size w w1 := by (repeat (first | exact Below.refl _ _ | assumption | refine Below.drew ?_ | refine up_drewN ?_ _ | refine up_alloc ?_ _ | refine up_set ?_ _ _ (by first | exact Nat.le_refl _ | (simp; done) | (simp; omega) | omega) | refine up_trans ?_ (by assumption)))
  have hs1 : w.heap.size + 2 ≤ w1.heap.size := by omega
  clear hb hh T xy yy
  go_wp2_with fail
  refine (C.out _ (by (repeat (first | exact Below.refl _ _ | assumption | refine Below.drew ?_ | refine up_drewN ?_ _ | refine up_alloc ?_ _ | refine up_set ?_ _ _ (by first | exact Nat.le_refl _ | (simp; done) | (simp; omega) | omega) | refine up_trans ?_ (by assumption))))).mono ?_
  rintro e w2 ⟨v2, rfl, ho2, hb⟩
  have hB : Below w1.heap.size w1 w2 := (by (repeat (first | exact Below.refl _ _ | assumption | refine Below.drew ?_ | refine up_drewN ?_ _ | refine up_alloc ?_ _ | refine up_set ?_ _ _ (by first | exact Nat.le_refl _ | (simp; done) | (simp; omega) | omega) | refine up_trans ?_ (by assumption)))); replace xc := up_c hB xz xc; replace xf := up_f hB xz xf; replace xz := Nat.lt_of_lt_of_le xz hB.size; replace yc := up_c hB yz yc; replace yf := up_f hB yz yf; replace yz := Nat.lt_of_lt_of_le yz hB.size; have sw2 := hB.size; replace hW := up_trans hW hB; clear hB
  have HO := Lib.hid (own_base ho2 hs1)
  obtain ⟨A2, c2, rfl, -, -⟩ := (RdL.of_own (f := moC) (bs := ms) ho2).form
  have ne1 : ¬ w2.heap.size = w.heap.size := by omega
  have ne2 : ¬ w2.heap.size = w.heap.size + 1 := by omega
  have ne3 : ¬ w.heap.size = w2.heap.size := by omega
  have ne4 : ¬ w.heap.size + 1 = w2.heap.size := by omega
  have ne5 : ¬ w2.heap.size + 1 = w.heap.size := by omega
  have ne6 : ¬ w2.heap.size + 1 = w.heap.size + 1 := by omega
  have ne7 : ¬ w.heap.size = w2.heap.size + 1 := by omega
  have ne8 : ¬ w.heap.size + 1 = w2.heap.size + 1 := by omega
  obtain ⟨b, q, rfl, hbb, q0, q1, q2, q3, q4, q5, q6⟩ := (H.out.up hW).cells (k := a) (by omega) HM.out
  simp only at q0 q1 q2 q3 q4 q5 q6
  have hbn : ¬ b = w2.heap.size := by omega
  have hbn2 : ¬ w2.heap.size = b := by omega
  have sz2 := hs1
  have hs2 : w.heap.size + 2 ≤ w2.heap.size := by have := hb.size; omega
  have HOL := Lib.hid (fun g hg => (HO.out.lt g hg).2)
  clear hb ho2 C sz2
  go_wp2_with fail
  refine (P.out _).mono ?_
  rintro e w3 ⟨rfl, hb⟩
  have zc : ∀ o, w3.cell? ⟨w2.heap.size, o, none⟩ = #[.slice A2 ms.length c2, .int .i64 a][o]? := (fun o => (hb.cell (p := ⟨w2.heap.size, o, none⟩) (by simp <;> omega)).trans (by simp [go_sem])); have zf : ∀ o, w3.frozen? ⟨w2.heap.size, o, none⟩ = false := (fun o => (hb.frozen (p := ⟨w2.heap.size, o, none⟩) (by simp <;> omega)).trans (by simp [go_sem])); have zz : w2.heap.size < w3.heap.size := (by have := hb.size; (try simp at this); omega); have zy := zz
  have uc : ∀ o, w3.cell? ⟨w2.heap.size + 1, o, none⟩ = #[.int .i64 p, .int .i64 fa, .int .i64 fc, S fp, .int .i64 ba, .int .i64 bc, S bp][o]? := (fun o => (hb.cell (p := ⟨w2.heap.size + 1, o, none⟩) (by simp <;> omega)).trans (by simp [go_sem])); have uf : ∀ o, w3.frozen? ⟨w2.heap.size + 1, o, none⟩ = false := (fun o => (hb.frozen (p := ⟨w2.heap.size + 1, o, none⟩) (by simp <;> omega)).trans (by simp [go_sem])); have uz : w2.heap.size + 1 < w3.heap.size := (by have := hb.size; (try simp at this); omega); have uy := uz
  have hB : Below w2.heap.size w2 w3 := by (repeat (first | exact Below.refl _ _ | assumption | refine Below.drew ?_ | refine up_drewN ?_ _ | refine up_alloc ?_ _ | refine up_set ?_ _ _ (by first | exact Nat.le_refl _ | (simp; done) | (simp; omega) | omega) | refine up_trans ?_ (by assumption)))
  replace yc := up_c hB yz yc
  replace yf := up_f hB yz yf
  replace yz := Nat.lt_of_lt_of_le yz hB.size
  replace hW := up_trans hW hB
  replace HO := Lib.hid (own_up HO.out hB)
  have sw3 := hB.size
  clear hb hB xc xf xz q0 q1 q2 q3 q4 q5 q6
  go_wp2_with fail
  refine bodyPost_ret (v := .tuple #[.agg #[.slice A2 ms.length c2, .int .i64 p], S y, .bool true]) (by simp [results, Try.results26, go_sem, yc]) rfl ⟨_, rfl, ?_, by (repeat (first | exact Below.refl _ _ | assumption | refine Below.drew ?_ | refine up_drewN ?_ _ | refine up_alloc ?_ _ | refine up_set ?_ _ _ (by first | exact Nat.le_refl _ | (simp; done) | (simp; omega) | omega) | refine up_trans ?_ (by assumption)))⟩
  exact own_base (own_set (own_set (own_setn HO.out ⟨w2.heap.size, 1, none⟩ (.int .i64 p) (fun g hg => by have := HOL.out g hg; simp; omega)) ⟨w.heap.size + 1, 0, none⟩ (.slice A2 ms.length c2) (by simp)) ⟨w.heap.size + 1, 1, none⟩ (.int .i64 p) (by simp)) (by omega)

/-- HistoryBack in the reference, one answer for both. -/
theorem specHistoryBack_yes (v : Value) (ms : List Mo) (a : Nat) (s : List UInt8) (w : World) (o : List (List UInt8)) (h : RdM w v ms) (hg : HGood ms a s o) :
    Calls Try.prog 26 #[.agg #[v, .int .i64 a], S s] w (HRes ms (toAt ms.length a (ms.getD a m0).par) (toText ms.length o s (ms.getD a m0).par) (inB (ms.getD a m0).par 0 ((ms.length : Int) - 1)) w) := by
  have ha := hg.a1
  by_cases h0 : a = 0
  · subst h0
    have hp : (ms.getD 0 m0).par = -1 := by rw [hg.m]; rfl
    have hi : inB (-1) 0 ((ms.length : Int) - 1) = false := by
      rcases hh : inB (-1) 0 ((ms.length : Int) - 1) with _ | _
      · rfl
      · have := inB_iff.1 hh; omega
    rw [hp]
    unfold toAt toText
    rw [hi]
    exact specHistoryBack_zero v ms s w o h hg
  · obtain ⟨hp0, hp1, _, _⟩ := hg.back (k := a) (by omega) (by omega)
    have hi : inB (ms.getD a m0).par 0 ((ms.length : Int) - 1) = true := inB_iff.2 (by omega)
    unfold toAt toText
    rw [hi]
    exact specHistoryBack_pos v ms a s w o h hg (by omega)

end Go.Proofs.Ytjcdklkdpcncgaa
