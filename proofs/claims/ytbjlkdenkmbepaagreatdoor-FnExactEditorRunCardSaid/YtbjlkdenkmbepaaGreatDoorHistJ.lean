/- What is proved here: What is proved here: contracts of the reference's HistoryBack. What is proved here: HistoryDo in both, when it refuses. What is proved here: HistoryDo in the reference, when it is done. No condition. -/
import Derived.Test.YtbjlkdenkmbepaaGreatDoorHistF
namespace Go.Proofs.YtbjlkdenkmbepaaGreatDoor
open Go.RowKit
set_option linter.unusedVariables false


set_option maxRecDepth 100000 in
set_option maxHeartbeats 1000000 in
theorem specHistoryBack_zero (v : Value) (ms : List Mo) (s : List UInt8) (w : World) (o : List (List UInt8)) (h : RdM w v ms) (hg : HGood ms 0 s o) :
    Calls Tryz.prog 62 #[.agg #[v, .int .i64 0], S s] w (HRes ms 0 s false w) := by
  have hn30 := hg.n30
  have hn1 := hg.n1
  have hsl := tv_len hg.t
  obtain ⟨A, c, rfl, _, _⟩ := h.1.form
  have H := Lib.hid h
  have T := Lib.hid (fun (w' : World) (hb : Below w.heap.size w w') => specHistoryValid_any (.slice A ms.length c) ms 0 s w' (h.up hb) (by omega) (by unfold maxLen; omega))
  have C := Lib.hid (fun (w' : World) (hb : Below w.heap.size w w') => l9Copy_any (.slice A ms.length c) ms 0 w' (h.up hb) (by omega))
  have HG := Lib.hid hg
  clear h hg
  have i2 : (0 : Int) < (ms.length : Int) := by omega
  go_enter Tryz.func62, Tryz.ntmps62
  go_wp2_with fail
  refine (T.out _ (by exact bBel)).mono ?_
  rintro e w1 ⟨ok, rfl, hh, hb⟩
  obtain rfl : ok = true := hh.2 ⟨o, HG.out⟩
  have xc : ∀ o, w1.cell? ⟨w.heap.size, o, none⟩ = #[.slice A ms.length c, .int .i64 0][o]? := (fun o => (hb.cell (p := ⟨w.heap.size, o, none⟩) (by simp <;> omega)).trans (by simp [go_sem])); have xf : ∀ o, w1.frozen? ⟨w.heap.size, o, none⟩ = false := (fun o => (hb.frozen (p := ⟨w.heap.size, o, none⟩) (by simp <;> omega)).trans (by simp [go_sem])); have xz : w.heap.size < w1.heap.size := (by have := hb.size; (try simp at this); omega); have xy := xz
  have yc : ∀ o, w1.cell? ⟨w.heap.size + 1, o, none⟩ = #[.slice none 0 0, .int .i64 0][o]? := (fun o => (hb.cell (p := ⟨w.heap.size + 1, o, none⟩) (by simp <;> omega)).trans (by simp [go_sem])); have yf : ∀ o, w1.frozen? ⟨w.heap.size + 1, o, none⟩ = false := (fun o => (hb.frozen (p := ⟨w.heap.size + 1, o, none⟩) (by simp <;> omega)).trans (by simp [go_sem])); have yz : w.heap.size + 1 < w1.heap.size := (by have := hb.size; (try simp at this); omega); have yy := yz
  have hW : Below w.heap.size w w1 := by exact bBel
  have hs1 : w.heap.size + 2 ≤ w1.heap.size := by omega
  clear hb hh T xy yy
  go_wp2_with fail
  refine (C.out _ (by exact bBel)).mono ?_
  rintro e w2 ⟨v2, rfl, ho2, hb⟩
  have hB : Below w1.heap.size w1 w2 := (by exact bBel); replace xc := up_c hB xz xc; replace xf := up_f hB xz xf; replace xz := Nat.lt_of_lt_of_le xz hB.size; replace yc := up_c hB yz yc; replace yf := up_f hB yz yf; replace yz := Nat.lt_of_lt_of_le yz hB.size; have sw2 := hB.size; replace hW := up_trans hW hB; clear hB
  have HO := Lib.hid (own_base ho2 hs1)
  obtain ⟨A2, c2, rfl, -, -⟩ := (RdL.of_own (f := moC) (bs := ms) ho2).form
  have ne1 : ¬ w2.heap.size = w.heap.size := by omega
  have ne2 : ¬ w2.heap.size = w.heap.size + 1 := by omega
  have ne3 : ¬ w.heap.size = w2.heap.size := by omega
  have ne4 : ¬ w.heap.size + 1 = w2.heap.size := by omega
  have ne5 : ¬ w2.heap.size + 1 = w.heap.size := by omega
  have ne6 : ¬ w2.heap.size + 1 = w.heap.size + 1 := by omega
  have ne7 : ¬ w.heap.size = w2.heap.size + 1 := by omega
  have ne8 : ¬ w.heap.size + 1 = w2.heap.size + 1 := by omega
  obtain ⟨m, hm⟩ : ∃ m, ms.getD 0 m0 = m := ⟨_, rfl⟩
  obtain ⟨b, q, rfl, hbb, q0, q1, q2, q3, q4, q5, q6⟩ := (H.out.up hW).cells (k := 0) (by omega) hm
  clear hm
  obtain ⟨p, ⟨fa, fc, fp⟩, ⟨ba, bc, bp⟩⟩ := m
  simp only [Nat.zero_mul, Nat.add_zero] at q0 q1 q2 q3 q4 q5 q6
  have hbn : ¬ b = w2.heap.size := by omega
  have hbn2 : ¬ w2.heap.size = b := by omega
  have hs2 : w.heap.size + 2 ≤ w2.heap.size := by have := hb.size; omega
  clear hb ho2 C
  go_upto_region 5 with (fail)
  obtain ⟨w3, hw⟩ : ∃ z, z = (w2.alloc (.cells #[.slice A2 ms.length c2, .int .i64 0] 25)).alloc (.cells #[.int .i64 p, .int .i64 fa, .int .i64 fc, S fp, .int .i64 ba, .int .i64 bc, S bp] 96) := ⟨_, rfl⟩
  have hb : Below ((w2.alloc (.cells #[.slice A2 ms.length c2, .int .i64 0] 25)).alloc (.cells #[.int .i64 p, .int .i64 fa, .int .i64 fc, S fp, .int .i64 ba, .int .i64 bc, S bp] 96)).heap.size ((w2.alloc (.cells #[.slice A2 ms.length c2, .int .i64 0] 25)).alloc (.cells #[.int .i64 p, .int .i64 fa, .int .i64 fc, S fp, .int .i64 ba, .int .i64 bc, S bp] 96)) w3 := by rw [hw]; exact Below.refl _ _
  rw [← hw]
  have zc : ∀ o, w3.cell? ⟨w2.heap.size, o, none⟩ = #[.slice A2 ms.length c2, .int .i64 0][o]? := (fun o => (hb.cell (p := ⟨w2.heap.size, o, none⟩) (by simp <;> omega)).trans (by simp [go_sem])); have zf : ∀ o, w3.frozen? ⟨w2.heap.size, o, none⟩ = false := (fun o => (hb.frozen (p := ⟨w2.heap.size, o, none⟩) (by simp <;> omega)).trans (by simp [go_sem])); have zz : w2.heap.size < w3.heap.size := (by have := hb.size; (try simp at this); omega); have zy := zz
  have xd : w.heap.size < w3.heap.size := by have := hb.size; simp at this; omega
  have hB : Below w2.heap.size w2 w3 := by exact bBel
  replace xc := up_c hB xz xc
  replace yc := up_c hB yz yc
  replace yf := up_f hB yz yf
  replace yz := Nat.lt_of_lt_of_le yz hB.size
  replace hW := up_trans hW hB
  replace HO := Lib.hid (own_up HO.out hB)
  clear hb hB hw xz q0 q1 q2 q3 q4 q5 q6
  go_wp2_with fail
  refine bodyPost_ret (v := .tuple #[.agg #[.slice A2 ms.length c2, .int .i64 0], S s, .bool false]) (by simp [results, Tryz.results62, go_sem, yc]) rfl ⟨_, rfl, ?_, by exact bBel⟩
  exact own_base (own_set (own_set HO.out _ _ (by simp)) _ _ (by simp)) (by omega)

set_option maxRecDepth 100000 in
set_option maxHeartbeats 1000000 in
theorem specHistoryBack_pos (v : Value) (ms : List Mo) (a : Nat) (s : List UInt8) (w : World) (o : List (List UInt8)) (h : RdM w v ms) (hg : HGood ms a s o) (ha0 : 0 < a) :
    Calls Tryz.prog 62 #[.agg #[v, .int .i64 a], S s] w (HRes ms (ms.getD a m0).par (o.getD (ms.getD a m0).par.toNat []) true w) := by
  have hn30 := hg.n30
  have ha := hg.a1
  have hsl := tv_len hg.t
  obtain ⟨hp0, hp1, hok, hap⟩ := hg.back ha0 (by omega)
  have hat := hg.at_
  rw [Int.toNat_natCast] at hat
  rw [hat] at hok hap
  have hpl := (hg.put (k := a) (by omega)).2
  obtain ⟨A, c, rfl, _, _⟩ := h.1.form
  have H := Lib.hid h
  have T := Lib.hid (fun (w' : World) (hb : Below w.heap.size w w') => specHistoryValid_any (.slice A ms.length c) ms a s w' (h.up hb) (by omega) (by unfold maxLen; omega))
  have C := Lib.hid (fun (w' : World) (hb : Below w.heap.size w w') => l9Copy_any (.slice A ms.length c) ms a w' (h.up hb) (by omega))
  have HG := Lib.hid hg
  clear h hg hat
  rw [hap]
  clear hap
  generalize hm : ms.getD a m0 = m at *
  obtain ⟨p, ⟨fa, fc, fp⟩, ⟨ba, bc, bp⟩⟩ := m
  have HM := Lib.hid hm
  clear hm
  simp only at hp0 hp1 hok hpl ⊢
  have P := Lib.hid (fun w' => specApplyChange_any s ba bc bp w' (by unfold maxLen; omega) (by omega))
  have hco : chOk s ba bc bp = true := hok
  have hto : apTo s ba bc bp = apF s ⟨ba, bc, bp⟩ := by unfold apTo apF; rw [if_pos hco]
  unfold AcPost at P
  rw [hco, hto] at P
  generalize apF s ⟨ba, bc, bp⟩ = y at *
  clear hok hpl hco hto
  have i1 : (0 : Int) ≤ (a : Int) := by omega
  have i2 : (a : Int) < (ms.length : Int) := by omega
  have i3 : ((a : Int) == 0) = false := beq_eq_false_iff_ne.2 (by omega)
  go_enter Tryz.func62, Tryz.ntmps62
  go_wp2_with fail
  refine (T.out _ (by exact bBel)).mono ?_
  rintro e w1 ⟨ok, rfl, hh, hb⟩
  obtain rfl : ok = true := hh.2 ⟨o, HG.out⟩
  have xc : ∀ o, w1.cell? ⟨w.heap.size, o, none⟩ = #[.slice A ms.length c, .int .i64 a][o]? := (fun o => (hb.cell (p := ⟨w.heap.size, o, none⟩) (by simp <;> omega)).trans (by simp [go_sem])); have xf : ∀ o, w1.frozen? ⟨w.heap.size, o, none⟩ = false := (fun o => (hb.frozen (p := ⟨w.heap.size, o, none⟩) (by simp <;> omega)).trans (by simp [go_sem])); have xz : w.heap.size < w1.heap.size := (by have := hb.size; (try simp at this); omega); have xy := xz
  have yc : ∀ o, w1.cell? ⟨w.heap.size + 1, o, none⟩ = #[.slice none 0 0, .int .i64 0][o]? := (fun o => (hb.cell (p := ⟨w.heap.size + 1, o, none⟩) (by simp <;> omega)).trans (by simp [go_sem])); have yf : ∀ o, w1.frozen? ⟨w.heap.size + 1, o, none⟩ = false := (fun o => (hb.frozen (p := ⟨w.heap.size + 1, o, none⟩) (by simp <;> omega)).trans (by simp [go_sem])); have yz : w.heap.size + 1 < w1.heap.size := (by have := hb.size; (try simp at this); omega); have yy := yz
  have hW : Below w.heap.size w w1 := by exact bBel
  have hs1 : w.heap.size + 2 ≤ w1.heap.size := by omega
  clear hb hh T xy yy
  go_wp2_with fail
  refine (C.out _ (by exact bBel)).mono ?_
  rintro e w2 ⟨v2, rfl, ho2, hb⟩
  have hB : Below w1.heap.size w1 w2 := (by exact bBel); replace xc := up_c hB xz xc; replace xf := up_f hB xz xf; replace xz := Nat.lt_of_lt_of_le xz hB.size; replace yc := up_c hB yz yc; replace yf := up_f hB yz yf; replace yz := Nat.lt_of_lt_of_le yz hB.size; have sw2 := hB.size; replace hW := up_trans hW hB; clear hB
  have HO := Lib.hid (own_base ho2 hs1)
  obtain ⟨A2, c2, rfl, -, -⟩ := (RdL.of_own (f := moC) (bs := ms) ho2).form
  have ne1 : ¬ w2.heap.size = w.heap.size := by omega
  have ne2 : ¬ w2.heap.size = w.heap.size + 1 := by omega
  have ne3 : ¬ w.heap.size = w2.heap.size := by omega
  have ne4 : ¬ w.heap.size + 1 = w2.heap.size := by omega
  have ne5 : ¬ w2.heap.size + 1 = w.heap.size := by omega
  have ne6 : ¬ w2.heap.size + 1 = w.heap.size + 1 := by omega
  have ne7 : ¬ w.heap.size = w2.heap.size + 1 := by omega
  have ne8 : ¬ w.heap.size + 1 = w2.heap.size + 1 := by omega
  obtain ⟨b, q, rfl, hbb, q0, q1, q2, q3, q4, q5, q6⟩ := (H.out.up hW).cells (k := a) (by omega) HM.out
  simp only at q0 q1 q2 q3 q4 q5 q6
  have hbn : ¬ b = w2.heap.size := by omega
  have hbn2 : ¬ w2.heap.size = b := by omega
  have sz2 := hs1
  have hs2 : w.heap.size + 2 ≤ w2.heap.size := by have := hb.size; omega
  have HOL := Lib.hid (fun g hg => (HO.out.lt g hg).2)
  clear hb ho2 C sz2
  go_wp2_with fail
  refine (P.out _).mono ?_
  rintro e w3 ⟨rfl, hb⟩
  have zc : ∀ o, w3.cell? ⟨w2.heap.size, o, none⟩ = #[.slice A2 ms.length c2, .int .i64 a][o]? := (fun o => (hb.cell (p := ⟨w2.heap.size, o, none⟩) (by simp <;> omega)).trans (by simp [go_sem])); have zf : ∀ o, w3.frozen? ⟨w2.heap.size, o, none⟩ = false := (fun o => (hb.frozen (p := ⟨w2.heap.size, o, none⟩) (by simp <;> omega)).trans (by simp [go_sem])); have zz : w2.heap.size < w3.heap.size := (by have := hb.size; (try simp at this); omega); have zy := zz
  have uc : ∀ o, w3.cell? ⟨w2.heap.size + 1, o, none⟩ = #[.int .i64 p, .int .i64 fa, .int .i64 fc, S fp, .int .i64 ba, .int .i64 bc, S bp][o]? := (fun o => (hb.cell (p := ⟨w2.heap.size + 1, o, none⟩) (by simp <;> omega)).trans (by simp [go_sem])); have uf : ∀ o, w3.frozen? ⟨w2.heap.size + 1, o, none⟩ = false := (fun o => (hb.frozen (p := ⟨w2.heap.size + 1, o, none⟩) (by simp <;> omega)).trans (by simp [go_sem])); have uz : w2.heap.size + 1 < w3.heap.size := (by have := hb.size; (try simp at this); omega); have uy := uz
  have hB : Below w2.heap.size w2 w3 := by exact bBel
  replace yc := up_c hB yz yc
  replace yf := up_f hB yz yf
  replace yz := Nat.lt_of_lt_of_le yz hB.size
  replace hW := up_trans hW hB
  replace HO := Lib.hid (own_up HO.out hB)
  have sw3 := hB.size
  clear hb hB xc xf xz q0 q1 q2 q3 q4 q5 q6
  go_wp2_with fail
  refine bodyPost_ret (v := .tuple #[.agg #[.slice A2 ms.length c2, .int .i64 p], S y, .bool true]) (by simp [results, Tryz.results62, go_sem, yc]) rfl ⟨_, rfl, ?_, by exact bBel⟩
  exact own_base (own_set (own_set (own_setn HO.out ⟨w2.heap.size, 1, none⟩ (.int .i64 p) (fun g hg => by have := HOL.out g hg; simp; omega)) ⟨w.heap.size + 1, 0, none⟩ (.slice A2 ms.length c2) (by simp)) ⟨w.heap.size + 1, 1, none⟩ (.int .i64 p) (by simp)) (by omega)

/-- HistoryBack in the reference, one answer for both. -/
theorem specHistoryBack_yes (v : Value) (ms : List Mo) (a : Nat) (s : List UInt8) (w : World) (o : List (List UInt8)) (h : RdM w v ms) (hg : HGood ms a s o) :
    Calls Tryz.prog 62 #[.agg #[v, .int .i64 a], S s] w (HRes ms (toAt ms.length a (ms.getD a m0).par) (toText ms.length o s (ms.getD a m0).par) (inB (ms.getD a m0).par 0 ((ms.length : Int) - 1)) w) := by
  have ha := hg.a1
  by_cases h0 : a = 0
  · subst h0
    have hp : (ms.getD 0 m0).par = -1 := by rw [hg.m]; rfl
    have hi : inB (-1) 0 ((ms.length : Int) - 1) = false := by
      rcases hh : inB (-1) 0 ((ms.length : Int) - 1) with _ | _
      · rfl
      · have := inB_iff.1 hh; omega
    rw [hp]
    unfold toAt toText
    rw [hi]
    exact specHistoryBack_zero v ms s w o h hg
  · obtain ⟨hp0, hp1, _, _⟩ := hg.back (k := a) (by omega) (by omega)
    have hi : inB (ms.getD a m0).par 0 ((ms.length : Int) - 1) = true := inB_iff.2 (by omega)
    unfold toAt toText
    rw [hi]
    exact specHistoryBack_pos v ms a s w o h hg (by omega)

end Go.Proofs.YtbjlkdenkmbepaaGreatDoor

namespace Go.Proofs.YtbjlkdenkmbepaaGreatDoor
open Go.RowKit
set_option linter.unusedVariables false


set_option maxRecDepth 100000 in
set_option maxHeartbeats 1000000 in
theorem implHistoryDo_bad (v : Value) (ms : List Mo) (a : Int) (s : List UInt8) (x : Ch) (w : World) (o : List (List UInt8)) (h : RdM w v ms) (hg : HGood ms a s o) (hp : x.p.length ≤ 1048576) (hok : okF s x = false) :
    Calls Tryz.prog 146 #[.agg #[v, .int .i64 a], S s, chAgg x] w (HRes ms a s false w) := by
  have hn30 := hg.n30
  have hn1 := hg.n1
  have hsl := tv_len hg.t
  obtain ⟨A, c, rfl, _, _⟩ := h.1.form
  have T := Lib.hid (fun (w' : World) (hb : Below w.heap.size w w') => implHistoryValid_any (.slice A ms.length c) ms a s w' (h.up hb) (by omega) (by unfold maxLen; omega))
  have C := Lib.hid (fun (w' : World) (hb : Below w.heap.size w w') => clone_any (.slice A ms.length c) ms a w' (h.up hb) (by omega))
  have R := Lib.hid (fun w' => implReverse_any s x w' hg.t hp)
  unfold RvPost at R
  rw [hok] at R
  simp only [Bool.false_eq_true, if_false] at R
  generalize c0 = rv at *
  obtain ⟨ra, rc, rp⟩ := rv
  obtain ⟨fa, fc, fp⟩ := x
  unfold chAgg at R ⊢
  simp only at R
  have HG := Lib.hid hg
  clear h hg hok
  go_enter Tryz.func146, Tryz.ntmps146
  go_wp2_with fail
  refine (T.out _ (by exact bBel)).mono ?_
  rintro e w1 ⟨ok, rfl, hh, hb⟩
  obtain rfl : ok = true := hh.2 ⟨o, HG.out⟩
  have xc : ∀ o, w1.cell? ⟨w.heap.size, o, none⟩ = #[.slice A ms.length c, .int .i64 a][o]? := (fun o => (hb.cell (p := ⟨w.heap.size, o, none⟩) (by simp <;> omega)).trans (by simp [go_sem])); have xf : ∀ o, w1.frozen? ⟨w.heap.size, o, none⟩ = false := (fun o => (hb.frozen (p := ⟨w.heap.size, o, none⟩) (by simp <;> omega)).trans (by simp [go_sem])); have xz : w.heap.size < w1.heap.size := (by have := hb.size; (try simp at this); omega); have xy := xz
  have dc : ∀ o, w1.cell? ⟨w.heap.size + 1, o, none⟩ = #[.int .i64 fa, .int .i64 fc, S fp][o]? := (fun o => (hb.cell (p := ⟨w.heap.size + 1, o, none⟩) (by simp <;> omega)).trans (by simp [go_sem])); have df : ∀ o, w1.frozen? ⟨w.heap.size + 1, o, none⟩ = false := (fun o => (hb.frozen (p := ⟨w.heap.size + 1, o, none⟩) (by simp <;> omega)).trans (by simp [go_sem])); have dz : w.heap.size + 1 < w1.heap.size := (by have := hb.size; (try simp at this); omega); have dy := dz
  have yc : ∀ o, w1.cell? ⟨w.heap.size + 2, o, none⟩ = #[.slice none 0 0, .int .i64 0][o]? := (fun o => (hb.cell (p := ⟨w.heap.size + 2, o, none⟩) (by simp <;> omega)).trans (by simp [go_sem])); have yf : ∀ o, w1.frozen? ⟨w.heap.size + 2, o, none⟩ = false := (fun o => (hb.frozen (p := ⟨w.heap.size + 2, o, none⟩) (by simp <;> omega)).trans (by simp [go_sem])); have yz : w.heap.size + 2 < w1.heap.size := (by have := hb.size; (try simp at this); omega); have yy := yz
  have hW : Below w.heap.size w w1 := by exact bBel
  have hs1 : w.heap.size + 3 ≤ w1.heap.size := by omega
  clear hb hh T xy dy yy
  go_wp2_with fail
  refine (C.out _ (by exact bBel)).mono ?_
  rintro e w2 ⟨v2, rfl, ho2, hb⟩
  have hB : Below w1.heap.size w1 w2 := (by exact bBel); replace xc := up_c hB xz xc; replace xf := up_f hB xz xf; replace xz := Nat.lt_of_lt_of_le xz hB.size; replace dc := up_c hB dz dc; replace df := up_f hB dz df; replace dz := Nat.lt_of_lt_of_le dz hB.size; replace yc := up_c hB yz yc; replace yf := up_f hB yz yf; replace yz := Nat.lt_of_lt_of_le yz hB.size; have sw2 := hB.size; replace hW := up_trans hW hB; clear hB
  have HO := Lib.hid (own_base ho2 hs1)
  obtain ⟨A2, c2, rfl, -, -⟩ := (RdL.of_own (f := moC) (bs := ms) ho2).form
  have hs2 : w.heap.size + 3 ≤ w2.heap.size := by have := hb.size; omega
  clear hb ho2 C hs1
  have ne1 : ¬ w2.heap.size = w.heap.size + 1 := by omega
  have ne2 : ¬ w.heap.size + 1 = w2.heap.size := by omega
  go_wp2_with fail
  refine (R.out _).mono ?_
  rintro e w3 ⟨rfl, hb⟩
  have zc : ∀ o, w3.cell? ⟨w2.heap.size, o, none⟩ = #[.slice A2 ms.length c2, .int .i64 a][o]? := (fun o => (hb.cell (p := ⟨w2.heap.size, o, none⟩) (by simp <;> omega)).trans (by simp [go_sem])); have zf : ∀ o, w3.frozen? ⟨w2.heap.size, o, none⟩ = false := (fun o => (hb.frozen (p := ⟨w2.heap.size, o, none⟩) (by simp <;> omega)).trans (by simp [go_sem])); have zz : w2.heap.size < w3.heap.size := (by have := hb.size; (try simp at this); omega); have zy := zz
  have hB : Below w2.heap.size w2 w3 := by exact bBel
  replace xc := up_c hB xz xc
  replace xf := up_f hB xz xf
  replace dc := up_c hB dz dc
  replace df := up_f hB dz df
  replace yc := up_c hB yz yc
  replace yf := up_f hB yz yf
  replace xz := Nat.lt_of_lt_of_le xz hB.size
  replace dz := Nat.lt_of_lt_of_le dz hB.size
  replace yz := Nat.lt_of_lt_of_le yz hB.size
  replace hW := up_trans hW hB
  replace HO := Lib.hid (own_up HO.out hB)
  clear hb hB zy
  have ne3 : ¬ w2.heap.size = w.heap.size + 2 := by omega
  have ne4 : ¬ w.heap.size + 2 = w2.heap.size := by omega
  go_wp2_with fail
  refine bodyPost_ret (v := .tuple #[.agg #[.slice A2 ms.length c2, .int .i64 a], S s, .bool false]) (by simp [results, Tryz.results146, go_sem, yc, yz]) rfl ⟨_, rfl, ?_, by exact bBel⟩
  exact own_base ((own_set (own_set HO.out _ _ (by simp)) _ _ (by simp)).alloc _) (by omega)

set_option maxRecDepth 100000 in
set_option maxHeartbeats 1000000 in
theorem implHistoryDo_full (v : Value) (ms : List Mo) (a : Int) (s : List UInt8) (x : Ch) (w : World) (o : List (List UInt8)) (h : RdM w v ms) (hg : HGood ms a s o) (hp : x.p.length ≤ 1048576) (hok : okF s x = true) (h30 : ms.length = 30) :
    Calls Tryz.prog 146 #[.agg #[v, .int .i64 a], S s, chAgg x] w (HRes ms a s false w) := by
  have hn30 := hg.n30
  have hn1 := hg.n1
  have hsl := tv_len hg.t
  obtain ⟨A, c, rfl, _, _⟩ := h.1.form
  have T := Lib.hid (fun (w' : World) (hb : Below w.heap.size w w') => implHistoryValid_any (.slice A ms.length c) ms a s w' (h.up hb) (by omega) (by unfold maxLen; omega))
  have C := Lib.hid (fun (w' : World) (hb : Below w.heap.size w w') => clone_any (.slice A ms.length c) ms a w' (h.up hb) (by omega))
  have R := Lib.hid (fun w' => implReverse_any s x w' hg.t hp)
  unfold RvPost at R
  rw [hok] at R
  simp only [if_true] at R
  generalize rvF s x = rv at *
  obtain ⟨ra, rc, rp⟩ := rv
  obtain ⟨fa, fc, fp⟩ := x
  unfold chAgg at R ⊢
  simp only at R
  have HG := Lib.hid hg
  clear h hg hok
  have h31 : ((ms.length : Int) == 30) = true := by rw [h30]; rfl
  clear h30
  go_enter Tryz.func146, Tryz.ntmps146
  go_wp2_with fail
  refine (T.out _ (by exact bBel)).mono ?_
  rintro e w1 ⟨ok, rfl, hh, hb⟩
  obtain rfl : ok = true := hh.2 ⟨o, HG.out⟩
  have xc : ∀ o, w1.cell? ⟨w.heap.size, o, none⟩ = #[.slice A ms.length c, .int .i64 a][o]? := (fun o => (hb.cell (p := ⟨w.heap.size, o, none⟩) (by simp <;> omega)).trans (by simp [go_sem])); have xf : ∀ o, w1.frozen? ⟨w.heap.size, o, none⟩ = false := (fun o => (hb.frozen (p := ⟨w.heap.size, o, none⟩) (by simp <;> omega)).trans (by simp [go_sem])); have xz : w.heap.size < w1.heap.size := (by have := hb.size; (try simp at this); omega); have xy := xz
  have dc : ∀ o, w1.cell? ⟨w.heap.size + 1, o, none⟩ = #[.int .i64 fa, .int .i64 fc, S fp][o]? := (fun o => (hb.cell (p := ⟨w.heap.size + 1, o, none⟩) (by simp <;> omega)).trans (by simp [go_sem])); have df : ∀ o, w1.frozen? ⟨w.heap.size + 1, o, none⟩ = false := (fun o => (hb.frozen (p := ⟨w.heap.size + 1, o, none⟩) (by simp <;> omega)).trans (by simp [go_sem])); have dz : w.heap.size + 1 < w1.heap.size := (by have := hb.size; (try simp at this); omega); have dy := dz
  have yc : ∀ o, w1.cell? ⟨w.heap.size + 2, o, none⟩ = #[.slice none 0 0, .int .i64 0][o]? := (fun o => (hb.cell (p := ⟨w.heap.size + 2, o, none⟩) (by simp <;> omega)).trans (by simp [go_sem])); have yf : ∀ o, w1.frozen? ⟨w.heap.size + 2, o, none⟩ = false := (fun o => (hb.frozen (p := ⟨w.heap.size + 2, o, none⟩) (by simp <;> omega)).trans (by simp [go_sem])); have yz : w.heap.size + 2 < w1.heap.size := (by have := hb.size; (try simp at this); omega); have yy := yz
  have hW : Below w.heap.size w w1 := by exact bBel
  have hs1 : w.heap.size + 3 ≤ w1.heap.size := by omega
  clear hb hh T xy dy yy
  go_wp2_with fail
  refine (C.out _ (by exact bBel)).mono ?_
  rintro e w2 ⟨v2, rfl, ho2, hb⟩
  have hB : Below w1.heap.size w1 w2 := (by exact bBel); replace xc := up_c hB xz xc; replace xf := up_f hB xz xf; replace xz := Nat.lt_of_lt_of_le xz hB.size; replace dc := up_c hB dz dc; replace df := up_f hB dz df; replace dz := Nat.lt_of_lt_of_le dz hB.size; replace yc := up_c hB yz yc; replace yf := up_f hB yz yf; replace yz := Nat.lt_of_lt_of_le yz hB.size; have sw2 := hB.size; replace hW := up_trans hW hB; clear hB
  have HO := Lib.hid (own_base ho2 hs1)
  obtain ⟨A2, c2, rfl, -, -⟩ := (RdL.of_own (f := moC) (bs := ms) ho2).form
  have hs2 : w.heap.size + 3 ≤ w2.heap.size := by have := hb.size; omega
  clear hb ho2 C hs1
  have ne1 : ¬ w2.heap.size = w.heap.size + 1 := by omega
  have ne2 : ¬ w.heap.size + 1 = w2.heap.size := by omega
  go_wp2_with fail
  refine (R.out _).mono ?_
  rintro e w3 ⟨rfl, hb⟩
  have zc : ∀ o, w3.cell? ⟨w2.heap.size, o, none⟩ = #[.slice A2 ms.length c2, .int .i64 a][o]? := (fun o => (hb.cell (p := ⟨w2.heap.size, o, none⟩) (by simp <;> omega)).trans (by simp [go_sem])); have zf : ∀ o, w3.frozen? ⟨w2.heap.size, o, none⟩ = false := (fun o => (hb.frozen (p := ⟨w2.heap.size, o, none⟩) (by simp <;> omega)).trans (by simp [go_sem])); have zz : w2.heap.size < w3.heap.size := (by have := hb.size; (try simp at this); omega); have zy := zz
  have hB : Below w2.heap.size w2 w3 := by exact bBel
  replace xc := up_c hB xz xc
  replace xf := up_f hB xz xf
  replace dc := up_c hB dz dc
  replace df := up_f hB dz df
  replace yc := up_c hB yz yc
  replace yf := up_f hB yz yf
  replace xz := Nat.lt_of_lt_of_le xz hB.size
  replace dz := Nat.lt_of_lt_of_le dz hB.size
  replace yz := Nat.lt_of_lt_of_le yz hB.size
  replace hW := up_trans hW hB
  replace HO := Lib.hid (own_up HO.out hB)
  clear hb hB zy
  have ne3 : ¬ w2.heap.size = w.heap.size + 2 := by omega
  have ne4 : ¬ w.heap.size + 2 = w2.heap.size := by omega
  go_wp2_with fail
  refine bodyPost_ret (v := .tuple #[.agg #[.slice A2 ms.length c2, .int .i64 a], S s, .bool false]) (by simp [results, Tryz.results146, go_sem, yc, yz]) rfl ⟨_, rfl, ?_, by exact bBel⟩
  exact own_base ((own_set (own_set HO.out _ _ (by simp)) _ _ (by simp)).alloc _) (by omega)


set_option maxRecDepth 100000 in
set_option maxHeartbeats 1000000 in
theorem specHistoryDo_bad (v : Value) (ms : List Mo) (a : Int) (s : List UInt8) (x : Ch) (w : World) (o : List (List UInt8)) (h : RdM w v ms) (hg : HGood ms a s o) (hp : x.p.length ≤ 1048576) (hok : okF s x = false) :
    Calls Tryz.prog 90 #[.agg #[v, .int .i64 a], S s, chAgg x] w (HRes ms a s false w) := by
  have hn30 := hg.n30
  have hn1 := hg.n1
  have hsl := tv_len hg.t
  obtain ⟨A, c, rfl, _, _⟩ := h.1.form
  have T := Lib.hid (fun (w' : World) (hb : Below w.heap.size w w') => specHistoryValid_any (.slice A ms.length c) ms a s w' (h.up hb) (by omega) (by unfold maxLen; omega))
  have C := Lib.hid (fun (w' : World) (hb : Below w.heap.size w w') => l9Copy_any (.slice A ms.length c) ms a w' (h.up hb) (by omega))
  have R := Lib.hid (fun w' => specReverse_any s x w' hg.t hp)
  have Q := Lib.hid (fun w' => specApplyChange_any s x.a x.c x.p w' (by unfold maxLen; omega) hp)
  have hq : chOk s x.a x.c x.p = false := hok
  unfold AcPost at Q
  rw [hq] at Q
  generalize apTo s x.a x.c x.p = y at *
  clear hq
  unfold RvPost at R
  rw [hok] at R
  simp only [Bool.false_eq_true, if_false] at R
  generalize c0 = rv at *
  obtain ⟨ra, rc, rp⟩ := rv
  obtain ⟨fa, fc, fp⟩ := x
  unfold chAgg at R ⊢
  simp only [chV] at Q
  simp only at R
  have HG := Lib.hid hg
  clear h hg hok
  go_enter Tryz.func90, Tryz.ntmps90
  go_wp2_with fail
  refine (T.out _ (by exact bBel)).mono ?_
  rintro e w1 ⟨ok, rfl, hh, hb⟩
  obtain rfl : ok = true := hh.2 ⟨o, HG.out⟩
  have xc : ∀ o, w1.cell? ⟨w.heap.size, o, none⟩ = #[.slice A ms.length c, .int .i64 a][o]? := (fun o => (hb.cell (p := ⟨w.heap.size, o, none⟩) (by simp <;> omega)).trans (by simp [go_sem])); have xf : ∀ o, w1.frozen? ⟨w.heap.size, o, none⟩ = false := (fun o => (hb.frozen (p := ⟨w.heap.size, o, none⟩) (by simp <;> omega)).trans (by simp [go_sem])); have xz : w.heap.size < w1.heap.size := (by have := hb.size; (try simp at this); omega); have xy := xz
  have dc : ∀ o, w1.cell? ⟨w.heap.size + 1, o, none⟩ = #[.int .i64 fa, .int .i64 fc, S fp][o]? := (fun o => (hb.cell (p := ⟨w.heap.size + 1, o, none⟩) (by simp <;> omega)).trans (by simp [go_sem])); have df : ∀ o, w1.frozen? ⟨w.heap.size + 1, o, none⟩ = false := (fun o => (hb.frozen (p := ⟨w.heap.size + 1, o, none⟩) (by simp <;> omega)).trans (by simp [go_sem])); have dz : w.heap.size + 1 < w1.heap.size := (by have := hb.size; (try simp at this); omega); have dy := dz
  have yc : ∀ o, w1.cell? ⟨w.heap.size + 2, o, none⟩ = #[.slice none 0 0, .int .i64 0][o]? := (fun o => (hb.cell (p := ⟨w.heap.size + 2, o, none⟩) (by simp <;> omega)).trans (by simp [go_sem])); have yf : ∀ o, w1.frozen? ⟨w.heap.size + 2, o, none⟩ = false := (fun o => (hb.frozen (p := ⟨w.heap.size + 2, o, none⟩) (by simp <;> omega)).trans (by simp [go_sem])); have yz : w.heap.size + 2 < w1.heap.size := (by have := hb.size; (try simp at this); omega); have yy := yz
  have hW : Below w.heap.size w w1 := by exact bBel
  have hs1 : w.heap.size + 3 ≤ w1.heap.size := by omega
  clear hb hh T xy dy yy
  go_wp2_with fail
  refine (C.out _ (by exact bBel)).mono ?_
  rintro e w2 ⟨v2, rfl, ho2, hb⟩
  have hB : Below w1.heap.size w1 w2 := (by exact bBel); replace xc := up_c hB xz xc; replace xf := up_f hB xz xf; replace xz := Nat.lt_of_lt_of_le xz hB.size; replace dc := up_c hB dz dc; replace df := up_f hB dz df; replace dz := Nat.lt_of_lt_of_le dz hB.size; replace yc := up_c hB yz yc; replace yf := up_f hB yz yf; replace yz := Nat.lt_of_lt_of_le yz hB.size; have sw2 := hB.size; replace hW := up_trans hW hB; clear hB
  have HO := Lib.hid (own_base ho2 hs1)
  obtain ⟨A2, c2, rfl, -, -⟩ := (RdL.of_own (f := moC) (bs := ms) ho2).form
  have hs2 : w.heap.size + 3 ≤ w2.heap.size := by have := hb.size; omega
  clear hb ho2 C hs1
  have ne1 : ¬ w2.heap.size = w.heap.size + 1 := by omega
  have ne2 : ¬ w.heap.size + 1 = w2.heap.size := by omega
  go_wp2_with fail
  refine (Q.out _).mono ?_
  rintro e w3 ⟨rfl, hb⟩
  have zc : ∀ o, w3.cell? ⟨w2.heap.size, o, none⟩ = #[.slice A2 ms.length c2, .int .i64 a][o]? := (fun o => (hb.cell (p := ⟨w2.heap.size, o, none⟩) (by simp <;> omega)).trans (by simp [go_sem])); have zf : ∀ o, w3.frozen? ⟨w2.heap.size, o, none⟩ = false := (fun o => (hb.frozen (p := ⟨w2.heap.size, o, none⟩) (by simp <;> omega)).trans (by simp [go_sem])); have zz : w2.heap.size < w3.heap.size := (by have := hb.size; (try simp at this); omega); have zy := zz
  have hB : Below w2.heap.size w2 w3 := by exact bBel
  replace xc := up_c hB xz xc
  replace xf := up_f hB xz xf
  replace dc := up_c hB dz dc
  replace df := up_f hB dz df
  replace yc := up_c hB yz yc
  replace yf := up_f hB yz yf
  replace xz := Nat.lt_of_lt_of_le xz hB.size
  replace dz := Nat.lt_of_lt_of_le dz hB.size
  replace yz := Nat.lt_of_lt_of_le yz hB.size
  replace hW := up_trans hW hB
  replace HO := Lib.hid (own_up HO.out hB)
  clear hb hB zy
  go_wp2_with fail
  refine (R.out _).mono ?_
  rintro e w4 ⟨rfl, hb⟩
  have hB : Below w3.heap.size w3 w4 := (by exact bBel); replace xc := up_c hB xz xc; replace xf := up_f hB xz xf; replace xz := Nat.lt_of_lt_of_le xz hB.size; replace dc := up_c hB dz dc; replace df := up_f hB dz df; replace dz := Nat.lt_of_lt_of_le dz hB.size; replace yc := up_c hB yz yc; replace yf := up_f hB yz yf; replace yz := Nat.lt_of_lt_of_le yz hB.size; replace zc := up_c hB zz zc; replace zf := up_f hB zz zf; replace zz := Nat.lt_of_lt_of_le zz hB.size; have sw4 := hB.size; replace hW := up_trans hW hB; clear hB
  replace HO := Lib.hid (own_up HO.out hb)
  clear hb
  have ne3 : ¬ w2.heap.size = w.heap.size + 2 := by omega
  have ne4 : ¬ w.heap.size + 2 = w2.heap.size := by omega
  go_wp2_with fail
  refine bodyPost_ret (v := .tuple #[.agg #[.slice A2 ms.length c2, .int .i64 a], S s, .bool false]) (by simp [results, Tryz.results90, go_sem, yc, yz]) rfl ⟨_, rfl, ?_, by exact bBel⟩
  exact own_base ((own_set (own_set HO.out _ _ (by simp)) _ _ (by simp)).alloc _) (by omega)

set_option maxRecDepth 100000 in
set_option maxHeartbeats 1000000 in
theorem specHistoryDo_full (v : Value) (ms : List Mo) (a : Int) (s : List UInt8) (x : Ch) (w : World) (o : List (List UInt8)) (h : RdM w v ms) (hg : HGood ms a s o) (hp : x.p.length ≤ 1048576) (hok : okF s x = true) (h30 : ms.length = 30) :
    Calls Tryz.prog 90 #[.agg #[v, .int .i64 a], S s, chAgg x] w (HRes ms a s false w) := by
  have hn30 := hg.n30
  have hn1 := hg.n1
  have hsl := tv_len hg.t
  obtain ⟨A, c, rfl, _, _⟩ := h.1.form
  have T := Lib.hid (fun (w' : World) (hb : Below w.heap.size w w') => specHistoryValid_any (.slice A ms.length c) ms a s w' (h.up hb) (by omega) (by unfold maxLen; omega))
  have C := Lib.hid (fun (w' : World) (hb : Below w.heap.size w w') => l9Copy_any (.slice A ms.length c) ms a w' (h.up hb) (by omega))
  have R := Lib.hid (fun w' => specReverse_any s x w' hg.t hp)
  have Q := Lib.hid (fun w' => specApplyChange_any s x.a x.c x.p w' (by unfold maxLen; omega) hp)
  have hq : chOk s x.a x.c x.p = true := hok
  unfold AcPost at Q
  rw [hq] at Q
  generalize apTo s x.a x.c x.p = y at *
  clear hq
  unfold RvPost at R
  rw [hok] at R
  simp only [if_true] at R
  generalize rvF s x = rv at *
  obtain ⟨ra, rc, rp⟩ := rv
  obtain ⟨fa, fc, fp⟩ := x
  unfold chAgg at R ⊢
  simp only [chV] at Q
  simp only at R
  have HG := Lib.hid hg
  clear h hg hok
  have h31 : ((ms.length : Int) == 30) = true := by rw [h30]; rfl
  clear h30
  go_enter Tryz.func90, Tryz.ntmps90
  go_wp2_with fail
  refine (T.out _ (by exact bBel)).mono ?_
  rintro e w1 ⟨ok, rfl, hh, hb⟩
  obtain rfl : ok = true := hh.2 ⟨o, HG.out⟩
  have xc : ∀ o, w1.cell? ⟨w.heap.size, o, none⟩ = #[.slice A ms.length c, .int .i64 a][o]? := (fun o => (hb.cell (p := ⟨w.heap.size, o, none⟩) (by simp <;> omega)).trans (by simp [go_sem])); have xf : ∀ o, w1.frozen? ⟨w.heap.size, o, none⟩ = false := (fun o => (hb.frozen (p := ⟨w.heap.size, o, none⟩) (by simp <;> omega)).trans (by simp [go_sem])); have xz : w.heap.size < w1.heap.size := (by have := hb.size; (try simp at this); omega); have xy := xz
  have dc : ∀ o, w1.cell? ⟨w.heap.size + 1, o, none⟩ = #[.int .i64 fa, .int .i64 fc, S fp][o]? := (fun o => (hb.cell (p := ⟨w.heap.size + 1, o, none⟩) (by simp <;> omega)).trans (by simp [go_sem])); have df : ∀ o, w1.frozen? ⟨w.heap.size + 1, o, none⟩ = false := (fun o => (hb.frozen (p := ⟨w.heap.size + 1, o, none⟩) (by simp <;> omega)).trans (by simp [go_sem])); have dz : w.heap.size + 1 < w1.heap.size := (by have := hb.size; (try simp at this); omega); have dy := dz
  have yc : ∀ o, w1.cell? ⟨w.heap.size + 2, o, none⟩ = #[.slice none 0 0, .int .i64 0][o]? := (fun o => (hb.cell (p := ⟨w.heap.size + 2, o, none⟩) (by simp <;> omega)).trans (by simp [go_sem])); have yf : ∀ o, w1.frozen? ⟨w.heap.size + 2, o, none⟩ = false := (fun o => (hb.frozen (p := ⟨w.heap.size + 2, o, none⟩) (by simp <;> omega)).trans (by simp [go_sem])); have yz : w.heap.size + 2 < w1.heap.size := (by have := hb.size; (try simp at this); omega); have yy := yz
  have hW : Below w.heap.size w w1 := by exact bBel
  have hs1 : w.heap.size + 3 ≤ w1.heap.size := by omega
  clear hb hh T xy dy yy
  go_wp2_with fail
  refine (C.out _ (by exact bBel)).mono ?_
  rintro e w2 ⟨v2, rfl, ho2, hb⟩
  have hB : Below w1.heap.size w1 w2 := (by exact bBel); replace xc := up_c hB xz xc; replace xf := up_f hB xz xf; replace xz := Nat.lt_of_lt_of_le xz hB.size; replace dc := up_c hB dz dc; replace df := up_f hB dz df; replace dz := Nat.lt_of_lt_of_le dz hB.size; replace yc := up_c hB yz yc; replace yf := up_f hB yz yf; replace yz := Nat.lt_of_lt_of_le yz hB.size; have sw2 := hB.size; replace hW := up_trans hW hB; clear hB
  have HO := Lib.hid (own_base ho2 hs1)
  obtain ⟨A2, c2, rfl, -, -⟩ := (RdL.of_own (f := moC) (bs := ms) ho2).form
  have hs2 : w.heap.size + 3 ≤ w2.heap.size := by have := hb.size; omega
  clear hb ho2 C hs1
  have ne1 : ¬ w2.heap.size = w.heap.size + 1 := by omega
  have ne2 : ¬ w.heap.size + 1 = w2.heap.size := by omega
  go_wp2_with fail
  refine (Q.out _).mono ?_
  rintro e w3 ⟨rfl, hb⟩
  have zc : ∀ o, w3.cell? ⟨w2.heap.size, o, none⟩ = #[.slice A2 ms.length c2, .int .i64 a][o]? := (fun o => (hb.cell (p := ⟨w2.heap.size, o, none⟩) (by simp <;> omega)).trans (by simp [go_sem])); have zf : ∀ o, w3.frozen? ⟨w2.heap.size, o, none⟩ = false := (fun o => (hb.frozen (p := ⟨w2.heap.size, o, none⟩) (by simp <;> omega)).trans (by simp [go_sem])); have zz : w2.heap.size < w3.heap.size := (by have := hb.size; (try simp at this); omega); have zy := zz
  have hB : Below w2.heap.size w2 w3 := by exact bBel
  replace xc := up_c hB xz xc
  replace xf := up_f hB xz xf
  replace dc := up_c hB dz dc
  replace df := up_f hB dz df
  replace yc := up_c hB yz yc
  replace yf := up_f hB yz yf
  replace xz := Nat.lt_of_lt_of_le xz hB.size
  replace dz := Nat.lt_of_lt_of_le dz hB.size
  replace yz := Nat.lt_of_lt_of_le yz hB.size
  replace hW := up_trans hW hB
  replace HO := Lib.hid (own_up HO.out hB)
  clear hb hB zy
  go_wp2_with fail
  refine (R.out _).mono ?_
  rintro e w4 ⟨rfl, hb⟩
  have hB : Below w3.heap.size w3 w4 := (by exact bBel); replace xc := up_c hB xz xc; replace xf := up_f hB xz xf; replace xz := Nat.lt_of_lt_of_le xz hB.size; replace dc := up_c hB dz dc; replace df := up_f hB dz df; replace dz := Nat.lt_of_lt_of_le dz hB.size; replace yc := up_c hB yz yc; replace yf := up_f hB yz yf; replace yz := Nat.lt_of_lt_of_le yz hB.size; replace zc := up_c hB zz zc; replace zf := up_f hB zz zf; replace zz := Nat.lt_of_lt_of_le zz hB.size; have sw4 := hB.size; replace hW := up_trans hW hB; clear hB
  replace HO := Lib.hid (own_up HO.out hb)
  clear hb
  have ne3 : ¬ w2.heap.size = w.heap.size + 2 := by omega
  have ne4 : ¬ w.heap.size + 2 = w2.heap.size := by omega
  go_wp2_with fail
  refine bodyPost_ret (v := .tuple #[.agg #[.slice A2 ms.length c2, .int .i64 a], S s, .bool false]) (by simp [results, Tryz.results90, go_sem, yc, yz]) rfl ⟨_, rfl, ?_, by exact bBel⟩
  exact own_base ((own_set (own_set HO.out _ _ (by simp)) _ _ (by simp)).alloc _) (by omega)

end Go.Proofs.YtbjlkdenkmbepaaGreatDoor

namespace Go.Proofs.YtbjlkdenkmbepaaGreatDoor
open Go.RowKit
set_option linter.unusedVariables false

theorem upg_c {w w1 : World} {row : Option Nat} {b : Nat} {A : Array Value} (hg : w.grownBy w1 row) (hb : b < w.heap.size) (hne : ∀ g, row = some g → b ≠ g) (hc : ∀ o, w.cell? ⟨b, o, none⟩ = A[o]?) : ∀ o, w1.cell? ⟨b, o, none⟩ = A[o]? :=
  fun o => (World.cell?_of_block (a := ⟨b, o, none⟩) (hg.block b hb (fun e => hne b e.symm rfl))).trans (hc o)
theorem upg_f {w w1 : World} {row : Option Nat} {b : Nat} (hg : w.grownBy w1 row) (hb : b < w.heap.size) (hne : ∀ g, row = some g → b ≠ g) (hc : ∀ o, w.frozen? ⟨b, o, none⟩ = false) : ∀ o, w1.frozen? ⟨b, o, none⟩ = false :=
  fun o => (World.frozen?_of_block (a := ⟨b, o, none⟩) (hg.block b hb (fun e => hne b e.symm rfl))).trans (hc o)

set_option maxRecDepth 100000 in
set_option maxHeartbeats 1000000 in
theorem specHistoryDo_done (v : Value) (ms : List Mo) (a : Int) (s : List UInt8) (x : Ch) (w : World) (o : List (List UInt8)) (h : RdM w v ms) (hg : HGood ms a s o) (hp : x.p.length ≤ 1048576) (hok : okF s x = true) (h30 : ms.length ≠ 30) :
    Calls Tryz.prog 90 #[.agg #[v, .int .i64 a], S s, chAgg x] w (HRes (ms ++ [⟨a, x, rvF s x⟩]) ms.length (apF s x) true w) := by
  have hn30 := hg.n30
  have hn1 := hg.n1
  have hsl := tv_len hg.t
  obtain ⟨A, c, rfl, _, _⟩ := h.1.form
  have T := Lib.hid (fun (w' : World) (hb : Below w.heap.size w w') => specHistoryValid_any (.slice A ms.length c) ms a s w' (h.up hb) (by omega) (by unfold maxLen; omega))
  have C := Lib.hid (fun (w' : World) (hb : Below w.heap.size w w') => l9Copy_any (.slice A ms.length c) ms a w' (h.up hb) (by omega))
  have R := Lib.hid (fun w' => specReverse_any s x w' hg.t hp)
  have Q := Lib.hid (fun w' => specApplyChange_any s x.a x.c x.p w' (by unfold maxLen; omega) hp)
  have hq : chOk s x.a x.c x.p = true := hok
  have hto : apTo s x.a x.c x.p = apF s x := by unfold apTo apF; rw [if_pos hq]
  unfold AcPost at Q
  rw [hq, hto] at Q
  generalize apF s x = y at *
  clear hq hto
  unfold RvPost at R
  rw [hok] at R
  simp only [if_true] at R
  generalize rvF s x = rv at *
  obtain ⟨ra, rc, rp⟩ := rv
  obtain ⟨fa, fc, fp⟩ := x
  unfold chAgg at R ⊢
  simp only [chV] at Q
  simp only at R
  have HG := Lib.hid hg
  clear h hg hok
  have h31 : ((ms.length : Int) == 30) = false := beq_eq_false_iff_ne.2 (by omega)
  obtain ⟨i0, hi, hz0, hz1, hz2⟩ := info_parts mo_info
  unfold HRes
  go_enter Tryz.func90, Tryz.ntmps90
  go_wp2_with fail
  refine (T.out _ (by exact bBel)).mono ?_
  rintro e w1 ⟨ok, rfl, hh, hb⟩
  obtain rfl : ok = true := hh.2 ⟨o, HG.out⟩
  have xc : ∀ o, w1.cell? ⟨w.heap.size, o, none⟩ = #[.slice A ms.length c, .int .i64 a][o]? := (fun o => (hb.cell (p := ⟨w.heap.size, o, none⟩) (by simp <;> omega)).trans (by simp [go_sem])); have xf : ∀ o, w1.frozen? ⟨w.heap.size, o, none⟩ = false := (fun o => (hb.frozen (p := ⟨w.heap.size, o, none⟩) (by simp <;> omega)).trans (by simp [go_sem])); have xz : w.heap.size < w1.heap.size := (by have := hb.size; (try simp at this); omega); have xy := xz
  have dc : ∀ o, w1.cell? ⟨w.heap.size + 1, o, none⟩ = #[.int .i64 fa, .int .i64 fc, S fp][o]? := (fun o => (hb.cell (p := ⟨w.heap.size + 1, o, none⟩) (by simp <;> omega)).trans (by simp [go_sem])); have df : ∀ o, w1.frozen? ⟨w.heap.size + 1, o, none⟩ = false := (fun o => (hb.frozen (p := ⟨w.heap.size + 1, o, none⟩) (by simp <;> omega)).trans (by simp [go_sem])); have dz : w.heap.size + 1 < w1.heap.size := (by have := hb.size; (try simp at this); omega); have dy := dz
  have yc : ∀ o, w1.cell? ⟨w.heap.size + 2, o, none⟩ = #[.slice none 0 0, .int .i64 0][o]? := (fun o => (hb.cell (p := ⟨w.heap.size + 2, o, none⟩) (by simp <;> omega)).trans (by simp [go_sem])); have yf : ∀ o, w1.frozen? ⟨w.heap.size + 2, o, none⟩ = false := (fun o => (hb.frozen (p := ⟨w.heap.size + 2, o, none⟩) (by simp <;> omega)).trans (by simp [go_sem])); have yz : w.heap.size + 2 < w1.heap.size := (by have := hb.size; (try simp at this); omega); have yy := yz
  have hW : Below w.heap.size w w1 := by exact bBel
  have hs1 : w.heap.size + 3 ≤ w1.heap.size := by omega
  clear hb hh T xy dy yy
  go_wp2_with fail
  refine (C.out _ (by exact bBel)).mono ?_
  rintro e w2 ⟨v2, rfl, ho2, hb⟩
  have hB : Below w1.heap.size w1 w2 := (by exact bBel); replace xc := up_c hB xz xc; replace xf := up_f hB xz xf; replace xz := Nat.lt_of_lt_of_le xz hB.size; replace dc := up_c hB dz dc; replace df := up_f hB dz df; replace dz := Nat.lt_of_lt_of_le dz hB.size; replace yc := up_c hB yz yc; replace yf := up_f hB yz yf; replace yz := Nat.lt_of_lt_of_le yz hB.size; have sw2 := hB.size; replace hW := up_trans hW hB; clear hB
  have HO := Lib.hid (own_base ho2 hs1)
  obtain ⟨A2, c2, rfl, -, -⟩ := (RdL.of_own (f := moC) (bs := ms) ho2).form
  have hs2 : w.heap.size + 3 ≤ w2.heap.size := by have := hb.size; omega
  have HOL := Lib.hid (fun g hg => (HO.out.lt g hg).2)
  clear hb ho2 C hs1
  have ne1 : ¬ w2.heap.size = w.heap.size + 1 := by omega
  have ne2 : ¬ w.heap.size + 1 = w2.heap.size := by omega
  go_wp2_with fail
  refine (Q.out _).mono ?_
  rintro e w3 ⟨rfl, hb⟩
  have zc : ∀ o, w3.cell? ⟨w2.heap.size, o, none⟩ = #[.slice A2 ms.length c2, .int .i64 a][o]? := (fun o => (hb.cell (p := ⟨w2.heap.size, o, none⟩) (by simp <;> omega)).trans (by simp [go_sem])); have zf : ∀ o, w3.frozen? ⟨w2.heap.size, o, none⟩ = false := (fun o => (hb.frozen (p := ⟨w2.heap.size, o, none⟩) (by simp <;> omega)).trans (by simp [go_sem])); have zz : w2.heap.size < w3.heap.size := (by have := hb.size; (try simp at this); omega); have zy := zz
  have hB : Below w2.heap.size w2 w3 := by exact bBel
  replace xc := up_c hB xz xc
  replace xf := up_f hB xz xf
  replace dc := up_c hB dz dc
  replace df := up_f hB dz df
  replace yc := up_c hB yz yc
  replace yf := up_f hB yz yf
  replace xz := Nat.lt_of_lt_of_le xz hB.size
  replace dz := Nat.lt_of_lt_of_le dz hB.size
  replace yz := Nat.lt_of_lt_of_le yz hB.size
  replace hW := up_trans hW hB
  replace HO := Lib.hid (own_up HO.out hB)
  clear hb hB zy
  go_wp2_with fail
  refine (R.out _).mono ?_
  rintro e w4 ⟨rfl, hb⟩
  have hB : Below w3.heap.size w3 w4 := (by exact bBel); replace xc := up_c hB xz xc; replace xf := up_f hB xz xf; replace xz := Nat.lt_of_lt_of_le xz hB.size; replace dc := up_c hB dz dc; replace df := up_f hB dz df; replace dz := Nat.lt_of_lt_of_le dz hB.size; replace yc := up_c hB yz yc; replace yf := up_f hB yz yf; replace yz := Nat.lt_of_lt_of_le yz hB.size; replace zc := up_c hB zz zc; replace zf := up_f hB zz zf; replace zz := Nat.lt_of_lt_of_le zz hB.size; have sw4 := hB.size; replace hW := up_trans hW hB; clear hB
  replace HO := Lib.hid (own_up HO.out hb)
  clear hb
  have hz4 : w2.heap.size < w4.heap.size := zz
  go_upto_region 8 with (fail)
  obtain ⟨w5, hw⟩ : ∃ z, z = (w4.alloc (.cells #[.int .i64 ra, .int .i64 rc, S rp] 78)) := ⟨_, rfl⟩
  have hb : Below (w4.alloc (.cells #[.int .i64 ra, .int .i64 rc, S rp] 78)).heap.size (w4.alloc (.cells #[.int .i64 ra, .int .i64 rc, S rp] 78)) w5 := by rw [hw]; exact Below.refl _ _
  rw [← hw]
  have uc : ∀ o, w5.cell? ⟨w4.heap.size, o, none⟩ = #[.int .i64 ra, .int .i64 rc, S rp][o]? := (fun o => (hb.cell (p := ⟨w4.heap.size, o, none⟩) (by simp <;> omega)).trans (by simp [go_sem])); have uf : ∀ o, w5.frozen? ⟨w4.heap.size, o, none⟩ = false := (fun o => (hb.frozen (p := ⟨w4.heap.size, o, none⟩) (by simp <;> omega)).trans (by simp [go_sem])); have uz : w4.heap.size < w5.heap.size := (by have := hb.size; (try simp at this); omega); have uy := uz
  have hB : Below w4.heap.size w4 w5 := by exact bBel
  replace xc := up_c hB xz xc
  replace dc := up_c hB dz dc
  replace yc := up_c hB yz yc
  replace yf := up_f hB yz yf
  replace zc := up_c hB zz zc
  replace zf := up_f hB zz zf
  replace xz := Nat.lt_of_lt_of_le xz hB.size
  replace dz := Nat.lt_of_lt_of_le dz hB.size
  replace yz := Nat.lt_of_lt_of_le yz hB.size
  replace zz := Nat.lt_of_lt_of_le zz hB.size
  replace hW := up_trans hW hB
  replace HO := Lib.hid (own_up HO.out hB)
  have hA1 : Below w5.heap.size w5 (w5.alloc (.cells #[.int .i64 a, .int .i64 fa, .int .i64 fc, S fp, .int .i64 ra, .int .i64 rc, S rp] 96)) := up_alloc (Below.refl _ _) _
  have hne1 : ∀ b, (b < w.heap.size + 3 ∨ b = w2.heap.size) → ∀ g, Value.ownBlock (.slice A2 ms.length c2) = some g → b ≠ g := fun b hb g hg => by have := HOL.out g hg; have := (HO.out.lt g hg).1; omega
  have hge : ∀ g, Value.ownBlock (.slice A2 ms.length c2) = some g → w.heap.size ≤ g := fun g hg => by have := (HO.out.lt g hg).1; omega
  have HN := Lib.hid hne1
  have HGE := Lib.hid hge
  have HA1 := Lib.hid hA1
  have n5 : (w5.alloc (.cells #[.int .i64 a, .int .i64 fa, .int .i64 fc, S fp, .int .i64 ra, .int .i64 rc, S rp] 96)).heap.size = w5.heap.size + 1 := by simp
  have N5 := Lib.hid n5
  have XC := Lib.hid (And.intro yc (And.intro yf (And.intro zc (And.intro zf hW))))
  clear hb hB hw df xf hne1 hge hA1 n5
  go_wp2_with (at_builtin; refine wpList_append_own_at _ rfl _ _ 23 rfl (w.heap.size + 3) 96 i0 _ 7 72 Tryz.underlying23 hi hz0 hz1 hz2 rfl (by decide) _ _ _ rfl (HO.out.alloc _) ⟨w5.heap.size, 0, none⟩ 1 1 [.int .i64 a, .int .i64 fa, .int .i64 fc, S fp, .int .i64 ra, .int .i64 rc, S rp] rfl rfl (cells_new _ _ _) (by intro u hu; simp at hu; rcases hu with rfl | rfl | rfl | rfl | rfl | rfl | rfl <;> rfl) (by unfold maxLen; omega) (by omega) (by simp; omega) ?_; intro v6 w6 how hgr _ hob; have HV := Lib.hid (show ∀ g, v6.ownBlock = some g → g ≠ w2.heap.size from fun g hg => hob.elim (fun h e => HN.out _ (Or.inr rfl) g (h.symm.trans hg) e.symm) (fun h e => by have h2 := h.symm.trans hg; injection h2 with h3; rw [N5.out] at h3; omega)); clear hob; have hgr2 : World.grownBy (w5.alloc (.cells #[.int .i64 a, .int .i64 fa, .int .i64 fc, S fp, .int .i64 ra, .int .i64 rc, S rp] 96)) w6 (Value.ownBlock (.slice A2 ms.length c2)) := hgr; obtain ⟨yc0, yf0, zc0, zf0, hW0⟩ := XC.out; replace yc := upg_c hgr2 (by rw [N5.out]; omega) (HN.out _ (Or.inl (by omega))) (up_c HA1.out yz yc0); replace yf := upg_f hgr2 (by rw [N5.out]; omega) (HN.out _ (Or.inl (by omega))) (up_f HA1.out yz yf0); replace zc := upg_c hgr2 (by rw [N5.out]; omega) (HN.out _ (Or.inr rfl)) (up_c HA1.out zz zc0); replace zf := upg_f hgr2 (by rw [N5.out]; omega) (HN.out _ (Or.inr rfl)) (up_f HA1.out zz zf0); have hW6 : Below w.heap.size w w6 := up_grown (up_trans hW0 HA1.out) hgr2 HGE.out; have sz6 : w5.heap.size ≤ w6.heap.size := (by have := hgr2.size; rw [N5.out] at this; omega); have HX := Lib.hid (show Own w6 (w.heap.size + 3) 96 7 v6 (ms ++ [(⟨a, ⟨fa, fc, fp⟩, ⟨ra, rc, rp⟩⟩ : Mo)]).length ((ms ++ [(⟨a, ⟨fa, fc, fp⟩, ⟨ra, rc, rp⟩⟩ : Mo)]).flatMap moC) by rw [List.length_append, List.flatMap_append]; exact how); obtain ⟨A6, c6, hv6, -, -⟩ := (RdL.of_own (f := moC) HX.out).form; rw [List.length_append] at hv6; replace hv6 : v6 = .slice A6 (ms.length + 1) c6 := hv6; subst hv6; have xz6 : w.heap.size + 2 < w6.heap.size := (by omega); have zz6 : w2.heap.size < w6.heap.size := (by omega); clear hgr hgr2 how XC hW yc0 yf0 zc0 zf0 hW0 xc dc uc uf uz)
  have ne3 : ¬ w2.heap.size = w.heap.size + 2 := by omega
  have ne4 : ¬ w.heap.size + 2 = w2.heap.size := by omega
  go_wp2_with fail
  refine bodyPost_ret (v := .tuple #[.agg #[.slice A6 (ms.length + 1) c6, .int .i64 ms.length], S y, .bool true]) (by simp [results, Tryz.results90, go_sem, yc]) rfl ⟨_, rfl, ?_, by have hQ := hW6; exact bBel⟩
  exact own_base (own_set (own_set (own_setn (own_setn HX.out ⟨w2.heap.size, 0, none⟩ _ (fun g hg => HV.out g hg)) ⟨w2.heap.size, 1, none⟩ (.int .i64 ms.length) (fun g hg => HV.out g hg)) _ _ (by simp)) _ _ (by simp)) (by omega)

end Go.Proofs.YtbjlkdenkmbepaaGreatDoor
