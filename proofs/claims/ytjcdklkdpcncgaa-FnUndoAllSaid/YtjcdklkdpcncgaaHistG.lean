/- What is proved here: HistoryDo in both, when it refuses. No condition. -/
import Derived.Test.YtjcdklkdpcncgaaHistD
namespace Go.Proofs.Ytjcdklkdpcncgaa
open Go.RowKit
set_option linter.unusedVariables false

set_option maxRecDepth 100000 in
set_option maxHeartbeats 1000000 in
theorem implHistoryDo_no (v : Value) (ms : List Mo) (a : Int) (s : List UInt8) (x : Ch) (w : World) (h : RdM w v ms) (hn : ms.length ≤ 1048576) (hs : s.length ≤ maxLen) (hg : ¬ ∃ o, HGood ms a s o) :
    Calls Try.prog 25 #[.agg #[v, .int .i64 a], S s, chAgg x] w (HRes [] 0 [] false w) := by
  obtain ⟨A, c, rfl, _, _⟩ := h.1.form
  have T := Lib.hid (fun (w' : World) (hb : Below w.heap.size w w') => implHistoryValid_any (.slice A ms.length c) ms a s w' (h.up hb) hn hs)
  have HG := Lib.hid hg
  clear h hg
  unfold chAgg
  go_enter Try.func25, Try.ntmps25
  go_wp2_with fail
  refine (T.out _ (by (repeat (first | exact Below.refl _ _ | assumption | refine Below.drew ?_ | refine up_drewN ?_ _ | refine up_alloc ?_ _ | refine up_set ?_ _ _ (by first | exact Nat.le_refl _ | (simp; done) | (simp; omega) | omega) | refine up_trans ?_ (by assumption))))).mono ?_
  rintro e w1 ⟨ok, rfl, hh, hb⟩
  obtain rfl : ok = false := by rcases ok with _ | _; rfl; exact absurd (hh.1 rfl) HG.out
  have yc : ∀ o, w1.cell? ⟨w.heap.size + 2, o, none⟩ = #[.slice none 0 0, .int .i64 0][o]? := (fun o => (hb.cell (p := ⟨w.heap.size + 2, o, none⟩) (by simp <;> omega)).trans (by simp [go_sem])); have yf : ∀ o, w1.frozen? ⟨w.heap.size + 2, o, none⟩ = false := (fun o => (hb.frozen (p := ⟨w.heap.size + 2, o, none⟩) (by simp <;> omega)).trans (by simp [go_sem])); have yz : w.heap.size + 2 < w1.heap.size := (by have := hb.size; (try simp at this); omega); have yy := yz
  have hW : Below w.heap.size w w1 := by (repeat (first | exact Below.refl _ _ | assumption | refine Below.drew ?_ | refine up_drewN ?_ _ | refine up_alloc ?_ _ | refine up_set ?_ _ _ (by first | exact Nat.le_refl _ | (simp; done) | (simp; omega) | omega) | refine up_trans ?_ (by assumption)))
  clear hb hh T
  go_wp2_with fail
  refine bodyPost_ret (v := .tuple #[.agg #[.slice none 0 0, .int .i64 0], S [], .bool false]) (by simp [results, Try.results25, go_sem, yc]) rfl (hres_no (by (repeat (first | exact Below.refl _ _ | assumption | refine Below.drew ?_ | refine up_drewN ?_ _ | refine up_alloc ?_ _ | refine up_set ?_ _ _ (by first | exact Nat.le_refl _ | (simp; done) | (simp; omega) | omega) | refine up_trans ?_ (by assumption)))))

set_option maxRecDepth 100000 in
set_option maxHeartbeats 1000000 in
theorem implHistoryDo_bad (v : Value) (ms : List Mo) (a : Int) (s : List UInt8) (x : Ch) (w : World) (o : List (List UInt8)) (h : RdM w v ms) (hg : HGood ms a s o) (hp : x.p.length ≤ 1048576) (hok : okF s x = false) :
    Calls Try.prog 25 #[.agg #[v, .int .i64 a], S s, chAgg x] w (HRes ms a s false w) := by
  have hn30 := hg.n30
  have hn1 := hg.n1
  have hsl := tv_len hg.t
  obtain ⟨A, c, rfl, _, _⟩ := h.1.form
  have T := Lib.hid (fun (w' : World) (hb : Below w.heap.size w w') => implHistoryValid_any (.slice A ms.length c) ms a s w' (h.up hb) (by omega) (by unfold maxLen; omega))
  have C := Lib.hid (fun (w' : World) (hb : Below w.heap.size w w') => clone_any (.slice A ms.length c) ms a w' (h.up hb) (by omega))
  have R := Lib.hid (fun w' => implReverse_any s x w' hg.t hp)
  unfold RvPost at R
  rw [hok] at R
  simp only [Bool.false_eq_true, if_false] at R
  generalize c0 = rv at *
  obtain ⟨ra, rc, rp⟩ := rv
  obtain ⟨fa, fc, fp⟩ := x
  unfold chAgg at R ⊢
  simp only at R
  have HG := Lib.hid hg
  clear h hg hok
  go_enter Try.func25, Try.ntmps25
  go_wp2_with fail
  refine (T.out _ (by (repeat (first | exact Below.refl _ _ | assumption | refine Below.drew ?_ | refine up_drewN ?_ _ | refine up_alloc ?_ _ | refine up_set ?_ _ _ (by first | exact Nat.le_refl _ | (simp; done) | (simp; omega) | omega) | refine up_trans ?_ (by assumption))))).mono ?_
  rintro e w1 ⟨ok, rfl, hh, hb⟩
  obtain rfl : ok = true := hh.2 ⟨o, HG.out⟩
  have xc : ∀ o, w1.cell? ⟨w.heap.size, o, none⟩ = #[.slice A ms.length c, .int .i64 a][o]? := (fun o => (hb.cell (p := ⟨w.heap.size, o, none⟩) (by simp <;> omega)).trans (by simp [go_sem])); have xf : ∀ o, w1.frozen? ⟨w.heap.size, o, none⟩ = false := (fun o => (hb.frozen (p := ⟨w.heap.size, o, none⟩) (by simp <;> omega)).trans (by simp [go_sem])); have xz : w.heap.size < w1.heap.size := (by have := hb.size; (try simp at this); omega); have xy := xz
  have dc : ∀ o, w1.cell? ⟨w.heap.size + 1, o, none⟩ = #[.int .i64 fa, .int .i64 fc, S fp][o]? := (fun o => (hb.cell (p := ⟨w.heap.size + 1, o, none⟩) (by simp <;> omega)).trans (by simp [go_sem])); have df : ∀ o, w1.frozen? ⟨w.heap.size + 1, o, none⟩ = false := (fun o => (hb.frozen (p := ⟨w.heap.size + 1, o, none⟩) (by simp <;> omega)).trans (by simp [go_sem])); have dz : w.heap.size + 1 < w1.heap.size := (by have := hb.size; (try simp at this); omega); have dy := dz
  have yc : ∀ o, w1.cell? ⟨w.heap.size + 2, o, none⟩ = #[.slice none 0 0, .int .i64 0][o]? := (fun o => (hb.cell (p := ⟨w.heap.size + 2, o, none⟩) (by simp <;> omega)).trans (by simp [go_sem])); have yf : ∀ o, w1.frozen? ⟨w.heap.size + 2, o, none⟩ = false := (fun o => (hb.frozen (p := ⟨w.heap.size + 2, o, none⟩) (by simp <;> omega)).trans (by simp [go_sem])); have yz : w.heap.size + 2 < w1.heap.size := (by have := hb.size; (try simp at this); omega); have yy := yz
  have hW : Below w.heap.size w w1 := by (repeat (first | exact Below.refl _ _ | assumption | refine Below.drew ?_ | refine up_drewN ?_ _ | refine up_alloc ?_ _ | refine up_set ?_ _ _ (by first | exact Nat.le_refl _ | (simp; done) | (simp; omega) | omega) | refine up_trans ?_ (by assumption)))
  have hs1 : w.heap.size + 3 ≤ w1.heap.size := by omega
  clear hb hh T xy dy yy
  go_wp2_with fail
  refine (C.out _ (by (repeat (first | exact Below.refl _ _ | assumption | refine Below.drew ?_ | refine up_drewN ?_ _ | refine up_alloc ?_ _ | refine up_set ?_ _ _ (by first | exact Nat.le_refl _ | (simp; done) | (simp; omega) | omega) | refine up_trans ?_ (by assumption))))).mono ?_
  rintro e w2 ⟨v2, rfl, ho2, hb⟩
  have hB : Below w1.heap.size w1 w2 := (by (repeat (first | exact Below.refl _ _ | assumption | refine Below.drew ?_ | refine up_drewN ?_ _ | refine up_alloc ?_ _ | refine up_set ?_ _ _ (by first | exact Nat.le_refl _ | (simp; done) | (simp; omega) | omega) | refine up_trans ?_ (by assumption)))); replace xc := up_c hB xz xc; replace xf := up_f hB xz xf; replace xz := Nat.lt_of_lt_of_le xz hB.size; replace dc := up_c hB dz dc; replace df := up_f hB dz df; replace dz := Nat.lt_of_lt_of_le dz hB.size; replace yc := up_c hB yz yc; replace yf := up_f hB yz yf; replace yz := Nat.lt_of_lt_of_le yz hB.size; have sw2 := hB.size; replace hW := up_trans hW hB; clear hB
  have HO := Lib.hid (own_base ho2 hs1)
  obtain ⟨A2, c2, rfl, -, -⟩ := (RdL.of_own (f := moC) (bs := ms) ho2).form
  have hs2 : w.heap.size + 3 ≤ w2.heap.size := by have := hb.size; omega
  clear hb ho2 C hs1
  have ne1 : ¬ w2.heap.size = w.heap.size + 1 := by omega
  have ne2 : ¬ w.heap.size + 1 = w2.heap.size := by omega
  go_wp2_with fail
  refine (R.out _).mono ?_
  rintro e w3 ⟨rfl, hb⟩
  have zc : ∀ o, w3.cell? ⟨w2.heap.size, o, none⟩ = #[.slice A2 ms.length c2, .int .i64 a][o]? := (fun o => (hb.cell (p := ⟨w2.heap.size, o, none⟩) (by simp <;> omega)).trans (by simp [go_sem])); have zf : ∀ o, w3.frozen? ⟨w2.heap.size, o, none⟩ = false := (fun o => (hb.frozen (p := ⟨w2.heap.size, o, none⟩) (by simp <;> omega)).trans (by simp [go_sem])); have zz : w2.heap.size < w3.heap.size := (by have := hb.size; (try simp at this); omega); have zy := zz
  have hB : Below w2.heap.size w2 w3 := by (repeat (first | exact Below.refl _ _ | assumption | refine Below.drew ?_ | refine up_drewN ?_ _ | refine up_alloc ?_ _ | refine up_set ?_ _ _ (by first | exact Nat.le_refl _ | (simp; done) | (simp; omega) | omega) | refine up_trans ?_ (by assumption)))
  replace xc := up_c hB xz xc
  replace xf := up_f hB xz xf
  replace dc := up_c hB dz dc
  replace df := up_f hB dz df
  replace yc := up_c hB yz yc
  replace yf := up_f hB yz yf
  replace xz := Nat.lt_of_lt_of_le xz hB.size
  replace dz := Nat.lt_of_lt_of_le dz hB.size
  replace yz := Nat.lt_of_lt_of_le yz hB.size
  replace hW := up_trans hW hB
  replace HO := Lib.hid (own_up HO.out hB)
  clear hb hB zy
  have ne3 : ¬ w2.heap.size = w.heap.size + 2 := by omega
  have ne4 : ¬ w.heap.size + 2 = w2.heap.size := by omega
  go_wp2_with fail
  refine bodyPost_ret (v := .tuple #[.agg #[.slice A2 ms.length c2, .int .i64 a], S s, .bool false]) (by simp [results, Try.results25, go_sem, yc, yz]) rfl ⟨_, rfl, ?_, by (repeat (first | exact Below.refl _ _ | assumption | refine Below.drew ?_ | refine up_drewN ?_ _ | refine up_alloc ?_ _ | refine up_set ?_ _ _ (by first | exact Nat.le_refl _ | (simp; done) | (simp; omega) | omega) | refine up_trans ?_ (by assumption)))⟩
  exact own_base ((own_set (own_set HO.out _ _ (by simp)) _ _ (by simp)).alloc _) (by omega)

set_option maxRecDepth 100000 in
set_option maxHeartbeats 1000000 in
theorem implHistoryDo_full (v : Value) (ms : List Mo) (a : Int) (s : List UInt8) (x : Ch) (w : World) (o : List (List UInt8)) (h : RdM w v ms) (hg : HGood ms a s o) (hp : x.p.length ≤ 1048576) (hok : okF s x = true) (h30 : ms.length = 30) :
    Calls Try.prog 25 #[.agg #[v, .int .i64 a], S s, chAgg x] w (HRes ms a s false w) := by
  have hn30 := hg.n30
  have hn1 := hg.n1
  have hsl := tv_len hg.t
  obtain ⟨A, c, rfl, _, _⟩ := h.1.form
  have T := Lib.hid (fun (w' : World) (hb : Below w.heap.size w w') => implHistoryValid_any (.slice A ms.length c) ms a s w' (h.up hb) (by omega) (by unfold maxLen; omega))
  have C := Lib.hid (fun (w' : World) (hb : Below w.heap.size w w') => clone_any (.slice A ms.length c) ms a w' (h.up hb) (by omega))
  have R := Lib.hid (fun w' => implReverse_any s x w' hg.t hp)
  unfold RvPost at R
  rw [hok] at R
  simp only [if_true] at R
  generalize rvF s x = rv at *
  obtain ⟨ra, rc, rp⟩ := rv
  obtain ⟨fa, fc, fp⟩ := x
  unfold chAgg at R ⊢
  simp only at R
  have HG := Lib.hid hg
  clear h hg hok
  have h31 : ((ms.length : Int) == 30) = true := by rw [h30]; rfl
  clear h30
  go_enter Try.func25, Try.ntmps25
  go_wp2_with fail
  refine (T.out _ (by (repeat (first | exact Below.refl _ _ | assumption | refine Below.drew ?_ | refine up_drewN ?_ _ | refine up_alloc ?_ _ | refine up_set ?_ _ _ (by first | exact Nat.le_refl _ | (simp; done) | (simp; omega) | omega) | refine up_trans ?_ (by assumption))))).mono ?_
  rintro e w1 ⟨ok, rfl, hh, hb⟩
  obtain rfl : ok = true := hh.2 ⟨o, HG.out⟩
  have xc : ∀ o, w1.cell? ⟨w.heap.size, o, none⟩ = #[.slice A ms.length c, .int .i64 a][o]? := (fun o => (hb.cell (p := ⟨w.heap.size, o, none⟩) (by simp <;> omega)).trans (by simp [go_sem])); have xf : ∀ o, w1.frozen? ⟨w.heap.size, o, none⟩ = false := (fun o => (hb.frozen (p := ⟨w.heap.size, o, none⟩) (by simp <;> omega)).trans (by simp [go_sem])); have xz : w.heap.size < w1.heap.size := (by have := hb.size; (try simp at this); omega); have xy := xz
  have dc : ∀ o, w1.cell? ⟨w.heap.size + 1, o, none⟩ = #[.int .i64 fa, .int .i64 fc, S fp][o]? := (fun o => (hb.cell (p := ⟨w.heap.size + 1, o, none⟩) (by simp <;> omega)).trans (by simp [go_sem])); have df : ∀ o, w1.frozen? ⟨w.heap.size + 1, o, none⟩ = false := (fun o => (hb.frozen (p := ⟨w.heap.size + 1, o, none⟩) (by simp <;> omega)).trans (by simp [go_sem])); have dz : w.heap.size + 1 < w1.heap.size := (by have := hb.size; (try simp at this); omega); have dy := dz
  have yc : ∀ o, w1.cell? ⟨w.heap.size + 2, o, none⟩ = #[.slice none 0 0, .int .i64 0][o]? := (fun o => (hb.cell (p := ⟨w.heap.size + 2, o, none⟩) (by simp <;> omega)).trans (by simp [go_sem])); have yf : ∀ o, w1.frozen? ⟨w.heap.size + 2, o, none⟩ = false := (fun o => (hb.frozen (p := ⟨w.heap.size + 2, o, none⟩) (by simp <;> omega)).trans (by simp [go_sem])); have yz : w.heap.size + 2 < w1.heap.size := (by have := hb.size; (try simp at this); omega); have yy := yz
  have hW : Below w.heap.size w w1 := by (repeat (first | exact Below.refl _ _ | assumption | refine Below.drew ?_ | refine up_drewN ?_ _ | refine up_alloc ?_ _ | refine up_set ?_ _ _ (by first | exact Nat.le_refl _ | (simp; done) | (simp; omega) | omega) | refine up_trans ?_ (by assumption)))
  have hs1 : w.heap.size + 3 ≤ w1.heap.size := by omega
  clear hb hh T xy dy yy
  go_wp2_with fail
  refine (C.out _ (by (repeat (first | exact Below.refl _ _ | assumption | refine Below.drew ?_ | refine up_drewN ?_ _ | refine up_alloc ?_ _ | refine up_set ?_ _ _ (by first | exact Nat.le_refl _ | (simp; done) | (simp; omega) | omega) | refine up_trans ?_ (by assumption))))).mono ?_
  rintro e w2 ⟨v2, rfl, ho2, hb⟩
  have hB : Below w1.heap.size w1 w2 := (by (repeat (first | exact Below.refl _ _ | assumption | refine Below.drew ?_ | refine up_drewN ?_ _ | refine up_alloc ?_ _ | refine up_set ?_ _ _ (by first | exact Nat.le_refl _ | (simp; done) | (simp; omega) | omega) | refine up_trans ?_ (by assumption)))); replace xc := up_c hB xz xc; replace xf := up_f hB xz xf; replace xz := Nat.lt_of_lt_of_le xz hB.size; replace dc := up_c hB dz dc; replace df := up_f hB dz df; replace dz := Nat.lt_of_lt_of_le dz hB.size; replace yc := up_c hB yz yc; replace yf := up_f hB yz yf; replace yz := Nat.lt_of_lt_of_le yz hB.size; have sw2 := hB.size; replace hW := up_trans hW hB; clear hB
  have HO := Lib.hid (own_base ho2 hs1)
  obtain ⟨A2, c2, rfl, -, -⟩ := (RdL.of_own (f := moC) (bs := ms) ho2).form
  have hs2 : w.heap.size + 3 ≤ w2.heap.size := by have := hb.size; omega
  clear hb ho2 C hs1
  have ne1 : ¬ w2.heap.size = w.heap.size + 1 := by omega
  have ne2 : ¬ w.heap.size + 1 = w2.heap.size := by omega
  go_wp2_with fail
  refine (R.out _).mono ?_
  rintro e w3 ⟨rfl, hb⟩
  have zc : ∀ o, w3.cell? ⟨w2.heap.size, o, none⟩ = #[.slice A2 ms.length c2, .int .i64 a][o]? := (fun o => (hb.cell (p := ⟨w2.heap.size, o, none⟩) (by simp <;> omega)).trans (by simp [go_sem])); have zf : ∀ o, w3.frozen? ⟨w2.heap.size, o, none⟩ = false := (fun o => (hb.frozen (p := ⟨w2.heap.size, o, none⟩) (by simp <;> omega)).trans (by simp [go_sem])); have zz : w2.heap.size < w3.heap.size := (by have := hb.size; (try simp at this); omega); have zy := zz
  have hB : Below w2.heap.size w2 w3 := by (repeat (first | exact Below.refl _ _ | assumption | refine Below.drew ?_ | refine up_drewN ?_ _ | refine up_alloc ?_ _ | refine up_set ?_ _ _ (by first | exact Nat.le_refl _ | (simp; done) | (simp; omega) | omega) | refine up_trans ?_ (by assumption)))
  replace xc := up_c hB xz xc
  replace xf := up_f hB xz xf
  replace dc := up_c hB dz dc
  replace df := up_f hB dz df
  replace yc := up_c hB yz yc
  replace yf := up_f hB yz yf
  replace xz := Nat.lt_of_lt_of_le xz hB.size
  replace dz := Nat.lt_of_lt_of_le dz hB.size
  replace yz := Nat.lt_of_lt_of_le yz hB.size
  replace hW := up_trans hW hB
  replace HO := Lib.hid (own_up HO.out hB)
  clear hb hB zy
  have ne3 : ¬ w2.heap.size = w.heap.size + 2 := by omega
  have ne4 : ¬ w.heap.size + 2 = w2.heap.size := by omega
  go_wp2_with fail
  refine bodyPost_ret (v := .tuple #[.agg #[.slice A2 ms.length c2, .int .i64 a], S s, .bool false]) (by simp [results, Try.results25, go_sem, yc, yz]) rfl ⟨_, rfl, ?_, by (repeat (first | exact Below.refl _ _ | assumption | refine Below.drew ?_ | refine up_drewN ?_ _ | refine up_alloc ?_ _ | refine up_set ?_ _ _ (by first | exact Nat.le_refl _ | (simp; done) | (simp; omega) | omega) | refine up_trans ?_ (by assumption)))⟩
  exact own_base ((own_set (own_set HO.out _ _ (by simp)) _ _ (by simp)).alloc _) (by omega)

set_option maxRecDepth 100000 in
set_option maxHeartbeats 1000000 in
theorem specHistoryDo_no (v : Value) (ms : List Mo) (a : Int) (s : List UInt8) (x : Ch) (w : World) (h : RdM w v ms) (hn : ms.length ≤ 1048576) (hs : s.length ≤ maxLen) (hg : ¬ ∃ o, HGood ms a s o) :
    Calls Try.prog 23 #[.agg #[v, .int .i64 a], S s, chAgg x] w (HRes [] 0 [] false w) := by
  obtain ⟨A, c, rfl, _, _⟩ := h.1.form
  have T := Lib.hid (fun (w' : World) (hb : Below w.heap.size w w') => specHistoryValid_any (.slice A ms.length c) ms a s w' (h.up hb) hn hs)
  have HG := Lib.hid hg
  clear h hg
  unfold chAgg
  go_enter Try.func23, Try.ntmps23
  go_wp2_with fail
  refine (T.out _ (by (repeat (first | exact Below.refl _ _ | assumption | refine Below.drew ?_ | refine up_drewN ?_ _ | refine up_alloc ?_ _ | refine up_set ?_ _ _ (by first | exact Nat.le_refl _ | (simp; done) | (simp; omega) | omega) | refine up_trans ?_ (by assumption))))).mono ?_
  rintro e w1 ⟨ok, rfl, hh, hb⟩
  obtain rfl : ok = false := by rcases ok with _ | _; rfl; exact absurd (hh.1 rfl) HG.out
  have yc : ∀ o, w1.cell? ⟨w.heap.size + 2, o, none⟩ = #[.slice none 0 0, .int .i64 0][o]? := (fun o => (hb.cell (p := ⟨w.heap.size + 2, o, none⟩) (by simp <;> omega)).trans (by simp [go_sem])); have yf : ∀ o, w1.frozen? ⟨w.heap.size + 2, o, none⟩ = false := (fun o => (hb.frozen (p := ⟨w.heap.size + 2, o, none⟩) (by simp <;> omega)).trans (by simp [go_sem])); have yz : w.heap.size + 2 < w1.heap.size := (by have := hb.size; (try simp at this); omega); have yy := yz
  have hW : Below w.heap.size w w1 := by (repeat (first | exact Below.refl _ _ | assumption | refine Below.drew ?_ | refine up_drewN ?_ _ | refine up_alloc ?_ _ | refine up_set ?_ _ _ (by first | exact Nat.le_refl _ | (simp; done) | (simp; omega) | omega) | refine up_trans ?_ (by assumption)))
  clear hb hh T
  go_wp2_with fail
  refine bodyPost_ret (v := .tuple #[.agg #[.slice none 0 0, .int .i64 0], S [], .bool false]) (by simp [results, Try.results23, go_sem, yc]) rfl (hres_no (by (repeat (first | exact Below.refl _ _ | assumption | refine Below.drew ?_ | refine up_drewN ?_ _ | refine up_alloc ?_ _ | refine up_set ?_ _ _ (by first | exact Nat.le_refl _ | (simp; done) | (simp; omega) | omega) | refine up_trans ?_ (by assumption)))))

set_option maxRecDepth 100000 in
set_option maxHeartbeats 1000000 in
theorem specHistoryDo_bad (v : Value) (ms : List Mo) (a : Int) (s : List UInt8) (x : Ch) (w : World) (o : List (List UInt8)) (h : RdM w v ms) (hg : HGood ms a s o) (hp : x.p.length ≤ 1048576) (hok : okF s x = false) :
    Calls Try.prog 23 #[.agg #[v, .int .i64 a], S s, chAgg x] w (HRes ms a s false w) := by
  have hn30 := hg.n30
  have hn1 := hg.n1
  have hsl := tv_len hg.t
  obtain ⟨A, c, rfl, _, _⟩ := h.1.form
  have T := Lib.hid (fun (w' : World) (hb : Below w.heap.size w w') => specHistoryValid_any (.slice A ms.length c) ms a s w' (h.up hb) (by omega) (by unfold maxLen; omega))
  have C := Lib.hid (fun (w' : World) (hb : Below w.heap.size w w') => l9Copy_any (.slice A ms.length c) ms a w' (h.up hb) (by omega))
  have R := Lib.hid (fun w' => specReverse_any s x w' hg.t hp)
  have Q := Lib.hid (fun w' => specApplyChange_any s x.a x.c x.p w' (by unfold maxLen; omega) hp)
  have hq : chOk s x.a x.c x.p = false := hok
  unfold AcPost at Q
  rw [hq] at Q
  generalize apTo s x.a x.c x.p = y at *
  clear hq
  unfold RvPost at R
  rw [hok] at R
  simp only [Bool.false_eq_true, if_false] at R
  generalize c0 = rv at *
  obtain ⟨ra, rc, rp⟩ := rv
  obtain ⟨fa, fc, fp⟩ := x
  unfold chAgg at R ⊢
  simp only [chV] at Q
  simp only at R
  have HG := Lib.hid hg
  clear h hg hok
  go_enter Try.func23, Try.ntmps23
  go_wp2_with fail
  refine (T.out _ (by (repeat (first | exact Below.refl _ _ | assumption | refine Below.drew ?_ | refine up_drewN ?_ _ | refine up_alloc ?_ _ | refine up_set ?_ _ _ (by first | exact Nat.le_refl _ | (simp; done) | (simp; omega) | omega) | refine up_trans ?_ (by assumption))))).mono ?_
  rintro e w1 ⟨ok, rfl, hh, hb⟩
  obtain rfl : ok = true := hh.2 ⟨o, HG.out⟩
  have xc : ∀ o, w1.cell? ⟨w.heap.size, o, none⟩ = #[.slice A ms.length c, .int .i64 a][o]? := (fun o => (hb.cell (p := ⟨w.heap.size, o, none⟩) (by simp <;> omega)).trans (by simp [go_sem])); have xf : ∀ o, w1.frozen? ⟨w.heap.size, o, none⟩ = false := (fun o => (hb.frozen (p := ⟨w.heap.size, o, none⟩) (by simp <;> omega)).trans (by simp [go_sem])); have xz : w.heap.size < w1.heap.size := (by have := hb.size; (try simp at this); omega); have xy := xz
  have dc : ∀ o, w1.cell? ⟨w.heap.size + 1, o, none⟩ = #[.int .i64 fa, .int .i64 fc, S fp][o]? := (fun o => (hb.cell (p := ⟨w.heap.size + 1, o, none⟩) (by simp <;> omega)).trans (by simp [go_sem])); have df : ∀ o, w1.frozen? ⟨w.heap.size + 1, o, none⟩ = false := (fun o => (hb.frozen (p := ⟨w.heap.size + 1, o, none⟩) (by simp <;> omega)).trans (by simp [go_sem])); have dz : w.heap.size + 1 < w1.heap.size := (by have := hb.size; (try simp at this); omega); have dy := dz
  have yc : ∀ o, w1.cell? ⟨w.heap.size + 2, o, none⟩ = #[.slice none 0 0, .int .i64 0][o]? := (fun o => (hb.cell (p := ⟨w.heap.size + 2, o, none⟩) (by simp <;> omega)).trans (by simp [go_sem])); have yf : ∀ o, w1.frozen? ⟨w.heap.size + 2, o, none⟩ = false := (fun o => (hb.frozen (p := ⟨w.heap.size + 2, o, none⟩) (by simp <;> omega)).trans (by simp [go_sem])); have yz : w.heap.size + 2 < w1.heap.size := (by have := hb.size; (try simp at this); omega); have yy := yz
  have hW : Below w.heap.size w w1 := by (repeat (first | exact Below.refl _ _ | assumption | refine Below.drew ?_ | refine up_drewN ?_ _ | refine up_alloc ?_ _ | refine up_set ?_ _ _ (by first | exact Nat.le_refl _ | (simp; done) | (simp; omega) | omega) | refine up_trans ?_ (by assumption)))
  have hs1 : w.heap.size + 3 ≤ w1.heap.size := by omega
  clear hb hh T xy dy yy
  go_wp2_with fail
  refine (C.out _ (by (repeat (first | exact Below.refl _ _ | assumption | refine Below.drew ?_ | refine up_drewN ?_ _ | refine up_alloc ?_ _ | refine up_set ?_ _ _ (by first | exact Nat.le_refl _ | (simp; done) | (simp; omega) | omega) | refine up_trans ?_ (by assumption))))).mono ?_
  rintro e w2 ⟨v2, rfl, ho2, hb⟩
  have hB : Below w1.heap.size w1 w2 := (by (repeat (first | exact Below.refl _ _ | assumption | refine Below.drew ?_ | refine up_drewN ?_ _ | refine up_alloc ?_ _ | refine up_set ?_ _ _ (by first | exact Nat.le_refl _ | (simp; done) | (simp; omega) | omega) | refine up_trans ?_ (by assumption)))); replace xc := up_c hB xz xc; replace xf := up_f hB xz xf; replace xz := Nat.lt_of_lt_of_le xz hB.size; replace dc := up_c hB dz dc; replace df := up_f hB dz df; replace dz := Nat.lt_of_lt_of_le dz hB.size; replace yc := up_c hB yz yc; replace yf := up_f hB yz yf; replace yz := Nat.lt_of_lt_of_le yz hB.size; have sw2 := hB.size; replace hW := up_trans hW hB; clear hB
  have HO := Lib.hid (own_base ho2 hs1)
  obtain ⟨A2, c2, rfl, -, -⟩ := (RdL.of_own (f := moC) (bs := ms) ho2).form
  have hs2 : w.heap.size + 3 ≤ w2.heap.size := by have := hb.size; omega
  clear hb ho2 C hs1
  have ne1 : ¬ w2.heap.size = w.heap.size + 1 := by omega
  have ne2 : ¬ w.heap.size + 1 = w2.heap.size := by omega
  go_wp2_with fail
  refine (Q.out _).mono ?_
  rintro e w3 ⟨rfl, hb⟩
  have zc : ∀ o, w3.cell? ⟨w2.heap.size, o, none⟩ = #[.slice A2 ms.length c2, .int .i64 a][o]? := (fun o => (hb.cell (p := ⟨w2.heap.size, o, none⟩) (by simp <;> omega)).trans (by simp [go_sem])); have zf : ∀ o, w3.frozen? ⟨w2.heap.size, o, none⟩ = false := (fun o => (hb.frozen (p := ⟨w2.heap.size, o, none⟩) (by simp <;> omega)).trans (by simp [go_sem])); have zz : w2.heap.size < w3.heap.size := (by have := hb.size; (try simp at this); omega); have zy := zz
  have hB : Below w2.heap.size w2 w3 := by (repeat (first | exact Below.refl _ _ | assumption | refine Below.drew ?_ | refine up_drewN ?_ _ | refine up_alloc ?_ _ | refine up_set ?_ _ _ (by first | exact Nat.le_refl _ | (simp; done) | (simp; omega) | omega) | refine up_trans ?_ (by assumption)))
  replace xc := up_c hB xz xc
  replace xf := up_f hB xz xf
  replace dc := up_c hB dz dc
  replace df := up_f hB dz df
  replace yc := up_c hB yz yc
  replace yf := up_f hB yz yf
  replace xz := Nat.lt_of_lt_of_le xz hB.size
  replace dz := Nat.lt_of_lt_of_le dz hB.size
  replace yz := Nat.lt_of_lt_of_le yz hB.size
  replace hW := up_trans hW hB
  replace HO := Lib.hid (own_up HO.out hB)
  clear hb hB zy
  go_wp2_with fail
  refine (R.out _).mono ?_
  rintro e w4 ⟨rfl, hb⟩
  have hB : Below w3.heap.size w3 w4 := (by (repeat (first | exact Below.refl _ _ | assumption | refine Below.drew ?_ | refine up_drewN ?_ _ | refine up_alloc ?_ _ | refine up_set ?_ _ _ (by first | exact Nat.le_refl _ | (simp; done) | (simp; omega) | omega) | refine up_trans ?_ (by assumption)))); replace xc := up_c hB xz xc; replace xf := up_f hB xz xf; replace xz := Nat.lt_of_lt_of_le xz hB.size; replace dc := up_c hB dz dc; replace df := up_f hB dz df; replace dz := Nat.lt_of_lt_of_le dz hB.size; replace yc := up_c hB yz yc; replace yf := up_f hB yz yf; replace yz := Nat.lt_of_lt_of_le yz hB.size; replace zc := up_c hB zz zc; replace zf := up_f hB zz zf; replace zz := Nat.lt_of_lt_of_le zz hB.size; have sw4 := hB.size; replace hW := up_trans hW hB; clear hB
  replace HO := Lib.hid (own_up HO.out hb)
  clear hb
  have ne3 : ¬ w2.heap.size = w.heap.size + 2 := by omega
  have ne4 : ¬ w.heap.size + 2 = w2.heap.size := by omega
  go_wp2_with fail
  refine bodyPost_ret (v := .tuple #[.agg #[.slice A2 ms.length c2, .int .i64 a], S s, .bool false]) (by simp [results, Try.results23, go_sem, yc, yz]) rfl ⟨_, rfl, ?_, by (repeat (first | exact Below.refl _ _ | assumption | refine Below.drew ?_ | refine up_drewN ?_ _ | refine up_alloc ?_ _ | refine up_set ?_ _ _ (by first | exact Nat.le_refl _ | (simp; done) | (simp; omega) | omega) | refine up_trans ?_ (by assumption)))⟩
  exact own_base ((own_set (own_set HO.out _ _ (by simp)) _ _ (by simp)).alloc _) (by omega)

set_option maxRecDepth 100000 in
set_option maxHeartbeats 1000000 in
theorem specHistoryDo_full (v : Value) (ms : List Mo) (a : Int) (s : List UInt8) (x : Ch) (w : World) (o : List (List UInt8)) (h : RdM w v ms) (hg : HGood ms a s o) (hp : x.p.length ≤ 1048576) (hok : okF s x = true) (h30 : ms.length = 30) :
    Calls Try.prog 23 #[.agg #[v, .int .i64 a], S s, chAgg x] w (HRes ms a s false w) := by
  have hn30 := hg.n30
  have hn1 := hg.n1
  have hsl := tv_len hg.t
  obtain ⟨A, c, rfl, _, _⟩ := h.1.form
  have T := Lib.hid (fun (w' : World) (hb : Below w.heap.size w w') => specHistoryValid_any (.slice A ms.length c) ms a s w' (h.up hb) (by omega) (by unfold maxLen; omega))
  have C := Lib.hid (fun (w' : World) (hb : Below w.heap.size w w') => l9Copy_any (.slice A ms.length c) ms a w' (h.up hb) (by omega))
  have R := Lib.hid (fun w' => specReverse_any s x w' hg.t hp)
  have Q := Lib.hid (fun w' => specApplyChange_any s x.a x.c x.p w' (by unfold maxLen; omega) hp)
  have hq : chOk s x.a x.c x.p = true := hok
  unfold AcPost at Q
  rw [hq] at Q
  generalize apTo s x.a x.c x.p = y at *
  clear hq
  unfold RvPost at R
  rw [hok] at R
  simp only [if_true] at R
  generalize rvF s x = rv at *
  obtain ⟨ra, rc, rp⟩ := rv
  obtain ⟨fa, fc, fp⟩ := x
  unfold chAgg at R ⊢
  simp only [chV] at Q
  simp only at R
  have HG := Lib.hid hg
  clear h hg hok
  have h31 : ((ms.length : Int) == 30) = true := by rw [h30]; rfl
  clear h30
  go_enter Try.func23, Try.ntmps23
  go_wp2_with fail
  refine (T.out _ (by (repeat (first | exact Below.refl _ _ | assumption | refine Below.drew ?_ | refine up_drewN ?_ _ | refine up_alloc ?_ _ | refine up_set ?_ _ _ (by first | exact Nat.le_refl _ | (simp; done) | (simp; omega) | omega) | refine up_trans ?_ (by assumption))))).mono ?_
  rintro e w1 ⟨ok, rfl, hh, hb⟩
  obtain rfl : ok = true := hh.2 ⟨o, HG.out⟩
  have xc : ∀ o, w1.cell? ⟨w.heap.size, o, none⟩ = #[.slice A ms.length c, .int .i64 a][o]? := (fun o => (hb.cell (p := ⟨w.heap.size, o, none⟩) (by simp <;> omega)).trans (by simp [go_sem])); have xf : ∀ o, w1.frozen? ⟨w.heap.size, o, none⟩ = false := (fun o => (hb.frozen (p := ⟨w.heap.size, o, none⟩) (by simp <;> omega)).trans (by simp [go_sem])); have xz : w.heap.size < w1.heap.size := (by have := hb.size; (try simp at this); omega); have xy := xz
  have dc : ∀ o, w1.cell? ⟨w.heap.size + 1, o, none⟩ = #[.int .i64 fa, .int .i64 fc, S fp][o]? := (fun o => (hb.cell (p := ⟨w.heap.size + 1, o, none⟩) (by simp <;> omega)).trans (by simp [go_sem])); have df : ∀ o, w1.frozen? ⟨w.heap.size + 1, o, none⟩ = false := (fun o => (hb.frozen (p := ⟨w.heap.size + 1, o, none⟩) (by simp <;> omega)).trans (by simp [go_sem])); have dz : w.heap.size + 1 < w1.heap.size := (by have := hb.size; (try simp at this); omega); have dy := dz
  have yc : ∀ o, w1.cell? ⟨w.heap.size + 2, o, none⟩ = #[.slice none 0 0, .int .i64 0][o]? := (fun o => (hb.cell (p := ⟨w.heap.size + 2, o, none⟩) (by simp <;> omega)).trans (by simp [go_sem])); have yf : ∀ o, w1.frozen? ⟨w.heap.size + 2, o, none⟩ = false := (fun o => (hb.frozen (p := ⟨w.heap.size + 2, o, none⟩) (by simp <;> omega)).trans (by simp [go_sem])); have yz : w.heap.size + 2 < w1.heap.size := (by have := hb.size; (try simp at this); omega); have yy := yz
  have hW : Below w.heap.size w w1 := by (repeat (first | exact Below.refl _ _ | assumption | refine Below.drew ?_ | refine up_drewN ?_ _ | refine up_alloc ?_ _ | refine up_set ?_ _ _ (by first | exact Nat.le_refl _ | (simp; done) | (simp; omega) | omega) | refine up_trans ?_ (by assumption)))
  have hs1 : w.heap.size + 3 ≤ w1.heap.size := by omega
  clear hb hh T xy dy yy
  go_wp2_with fail
  refine (C.out _ (by (repeat (first | exact Below.refl _ _ | assumption | refine Below.drew ?_ | refine up_drewN ?_ _ | refine up_alloc ?_ _ | refine up_set ?_ _ _ (by first | exact Nat.le_refl _ | (simp; done) | (simp; omega) | omega) | refine up_trans ?_ (by assumption))))).mono ?_
  rintro e w2 ⟨v2, rfl, ho2, hb⟩
  have hB : Below w1.heap.size w1 w2 := (by (repeat (first | exact Below.refl _ _ | assumption | refine Below.drew ?_ | refine up_drewN ?_ _ | refine up_alloc ?_ _ | refine up_set ?_ _ _ (by first | exact Nat.le_refl _ | (simp; done) | (simp; omega) | omega) | refine up_trans ?_ (by assumption)))); replace xc := up_c hB xz xc; replace xf := up_f hB xz xf; replace xz := Nat.lt_of_lt_of_le xz hB.size; replace dc := up_c hB dz dc; replace df := up_f hB dz df; replace dz := Nat.lt_of_lt_of_le dz hB.size; replace yc := up_c hB yz yc; replace yf := up_f hB yz yf; replace yz := Nat.lt_of_lt_of_le yz hB.size; have sw2 := hB.size; replace hW := up_trans hW hB; clear hB
  have HO := Lib.hid (own_base ho2 hs1)
  obtain ⟨A2, c2, rfl, -, -⟩ := (RdL.of_own (f := moC) (bs := ms) ho2).form
  have hs2 : w.heap.size + 3 ≤ w2.heap.size := by have := hb.size; omega
  clear hb ho2 C hs1
  have ne1 : ¬ w2.heap.size = w.heap.size + 1 := by omega
  have ne2 : ¬ w.heap.size + 1 = w2.heap.size := by omega
  go_wp2_with fail
  refine (Q.out _).mono ?_
  rintro e w3 ⟨rfl, hb⟩
  have zc : ∀ o, w3.cell? ⟨w2.heap.size, o, none⟩ = #[.slice A2 ms.length c2, .int .i64 a][o]? := (fun o => (hb.cell (p := ⟨w2.heap.size, o, none⟩) (by simp <;> omega)).trans (by simp [go_sem])); have zf : ∀ o, w3.frozen? ⟨w2.heap.size, o, none⟩ = false := (fun o => (hb.frozen (p := ⟨w2.heap.size, o, none⟩) (by simp <;> omega)).trans (by simp [go_sem])); have zz : w2.heap.size < w3.heap.size := (by have := hb.size; (try simp at this); omega); have zy := zz
  have hB : Below w2.heap.size w2 w3 := by (repeat (first | exact Below.refl _ _ | assumption | refine Below.drew ?_ | refine up_drewN ?_ _ | refine up_alloc ?_ _ | refine up_set ?_ _ _ (by first | exact Nat.le_refl _ | (simp; done) | (simp; omega) | omega) | refine up_trans ?_ (by assumption)))
  replace xc := up_c hB xz xc
  replace xf := up_f hB xz xf
  replace dc := up_c hB dz dc
  replace df := up_f hB dz df
  replace yc := up_c hB yz yc
  replace yf := up_f hB yz yf
  replace xz := Nat.lt_of_lt_of_le xz hB.size
  replace dz := Nat.lt_of_lt_of_le dz hB.size
  replace yz := Nat.lt_of_lt_of_le yz hB.size
  replace hW := up_trans hW hB
  replace HO := Lib.hid (own_up HO.out hB)
  clear hb hB zy
  go_wp2_with fail
  refine (R.out _).mono ?_
  rintro e w4 ⟨rfl, hb⟩
  have hB : Below w3.heap.size w3 w4 := (by (repeat (first | exact Below.refl _ _ | assumption | refine Below.drew ?_ | refine up_drewN ?_ _ | refine up_alloc ?_ _ | refine up_set ?_ _ _ (by first | exact Nat.le_refl _ | (simp; done) | (simp; omega) | omega) | refine up_trans ?_ (by assumption)))); replace xc := up_c hB xz xc; replace xf := up_f hB xz xf; replace xz := Nat.lt_of_lt_of_le xz hB.size; replace dc := up_c hB dz dc; replace df := up_f hB dz df; replace dz := Nat.lt_of_lt_of_le dz hB.size; replace yc := up_c hB yz yc; replace yf := up_f hB yz yf; replace yz := Nat.lt_of_lt_of_le yz hB.size; replace zc := up_c hB zz zc; replace zf := up_f hB zz zf; replace zz := Nat.lt_of_lt_of_le zz hB.size; have sw4 := hB.size; replace hW := up_trans hW hB; clear hB
  replace HO := Lib.hid (own_up HO.out hb)
  clear hb
  have ne3 : ¬ w2.heap.size = w.heap.size + 2 := by omega
  have ne4 : ¬ w.heap.size + 2 = w2.heap.size := by omega
  go_wp2_with fail
  refine bodyPost_ret (v := .tuple #[.agg #[.slice A2 ms.length c2, .int .i64 a], S s, .bool false]) (by simp [results, Try.results23, go_sem, yc, yz]) rfl ⟨_, rfl, ?_, by (repeat (first | exact Below.refl _ _ | assumption | refine Below.drew ?_ | refine up_drewN ?_ _ | refine up_alloc ?_ _ | refine up_set ?_ _ _ (by first | exact Nat.le_refl _ | (simp; done) | (simp; omega) | omega) | refine up_trans ?_ (by assumption)))⟩
  exact own_base ((own_set (own_set HO.out _ _ (by simp)) _ _ (by simp)).alloc _) (by omega)

end Go.Proofs.Ytjcdklkdpcncgaa
