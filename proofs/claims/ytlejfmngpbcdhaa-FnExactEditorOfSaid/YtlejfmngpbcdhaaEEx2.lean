/- What is proved here: the walk of the law FnExactEditorOf. No condition. -/
import Derived.Test.YtlejfmngpbcdhaaEdOf
import Derived.Test.YtlejfmngpbcdhaaHSm
namespace Go.Proofs.Ytlejfmngpbcdhaa
open Go.RowKit
set_option linter.unusedVariables false

set_option maxRecDepth 100000 in
set_option maxHeartbeats 2000000 in
theorem exactEditorOf_walk (s : List UInt8) (hs : s.length ≤ maxLen) (w : World) :
    Calls Try.prog 3 #[.string ⟨s.toArray⟩] w fun e w' => e = .returned (.bool true) ∧ Below w.heap.size w w' := by
  have hW := Below.refl w.heap.size w
  by_cases l1 : 1048576 < s.length
  · go_enter Try.func3, Try.ntmps3
    go_wp2_with fail
    go_ret
    exact ⟨rfl, by (repeat (first | exact Below.refl _ _ | assumption | refine Below.drew ?_ | refine up_drewN ?_ _ | refine up_alloc ?_ _ | refine up_set ?_ _ _ (by first | exact Nat.le_refl _ | (simp; done) | (simp; omega) | omega) | refine up_trans ?_ (by assumption)))⟩
  have FS := Lib.hid (fun w => specEditorOf_any s w hs)
  have FI := Lib.hid (fun w => implEditorOf_any s w hs)
  have hm2 := eoM_len s
  generalize eoM s = m2 at *
  generalize eoT s = t at *
  have EQ := Lib.hid (fun (u v : Value) (w' : World) (hu : RdL w' 7 moC u m2) (hv : RdL w' 7 moC v m2) => eqEditor_same u v m2 0 t 0 [] w' hu hv)
  have MK := Lib.hid (fun (base : Nat) (v : Value) (w' : World) hbw ho => markEditor_any base v m2.length 0 t 0 [] (m2.flatMap moC) 1 w' (by omega) (by omega) hm2 hbw ho)
  have HD := Lib.hid (fun (v : Value) (w' : World) hu => heldEditor_any v m2.length 0 t 0 [] 1 w' (by omega) (by omega) hm2 hu)
  unfold ToEPost at FS FI
  unfold edAgg at FS FI EQ MK HD
  go_enter Try.func3, Try.ntmps3
  go_wp2_with fail
  refine (FS.out _).mono ?_
  rintro e w1 ⟨v0, rfl, ho0, hb⟩
  have hB : Below w.heap.size w w1 := (by (repeat (first | exact Below.refl _ _ | assumption | refine Below.drew ?_ | refine up_drewN ?_ _ | refine up_alloc ?_ _ | refine up_set ?_ _ _ (by first | exact Nat.le_refl _ | (simp; done) | (simp; omega) | omega) | refine up_trans ?_ (by assumption)))); have sw1 := hB.size; replace hW := up_trans hW hB; clear hB
  obtain ⟨VA, VC, rfl, -, -⟩ := (RdL.of_own (f := moC) (bs := m2) ho0).form
  clear hb
  go_wp2_with fail
  refine (FI.out _).mono ?_
  rintro e w2 ⟨g0, rfl, hg0, hb⟩
  have n2 := Lib.hid (own_ne ho0 hg0 (by first | omega | (simp; done) | (simp; omega)))
  have gd := Lib.hid (ho_ne hg0 (show w1.heap.size < _ by first | omega | (simp; done) | (simp; omega)))
  have dc : ∀ o, w2.cell? ⟨w1.heap.size, o, none⟩ = #[S t, .int .i64 0, S [], .slice VA m2.length VC, .int .i64 0][o]? := (fun o => (hb.cell (p := ⟨w1.heap.size, o, none⟩) (by simp <;> omega)).trans (by simp [go_sem])); have df : ∀ o, w2.frozen? ⟨w1.heap.size, o, none⟩ = false := (fun o => (hb.frozen (p := ⟨w1.heap.size, o, none⟩) (by simp <;> omega)).trans (by simp [go_sem])); have dz : w1.heap.size < w2.heap.size := (by have := hb.size; (try simp at this); omega); have dy := dz
  have hB : Below w1.heap.size w1 w2 := (by (repeat (first | exact Below.refl _ _ | assumption | refine Below.drew ?_ | refine up_drewN ?_ _ | refine up_alloc ?_ _ | refine up_set ?_ _ _ (by first | exact Nat.le_refl _ | (simp; done) | (simp; omega) | omega) | refine up_trans ?_ (by assumption)))); replace ho0 := own_up ho0 hB; have sw2 := hB.size; replace hW := up_trans hW hB; clear hB
  obtain ⟨GA, GC, rfl, -, -⟩ := (RdL.of_own (f := moC) (bs := m2) hg0).form
  have gg := Lib.hid (ho_gt hg0 (Nat.le_refl _))
  replace hg0 := own_base hg0 (show w.heap.size ≤ _ by first | omega | (simp; done) | (simp; omega))
  have sx1 : ¬ w2.heap.size = w1.heap.size := by omega
  have sx2 : ¬ w1.heap.size = w2.heap.size := by omega
  have HO0 := Lib.hid ho0
  have HG0 := Lib.hid hg0
  clear hb ho0 hg0
  go_wp2_with fail
  refine (EQ.out _ _ _ (RdL.of_own (own_up HG0.out (by (repeat (first | exact Below.refl _ _ | assumption | refine Below.drew ?_ | refine up_drewN ?_ _ | refine up_alloc ?_ _ | refine up_set ?_ _ _ (by first | exact Nat.le_refl _ | (simp; done) | (simp; omega) | omega) | refine up_trans ?_ (by assumption)))))) (RdL.of_own (own_up HO0.out (by (repeat (first | exact Below.refl _ _ | assumption | refine Below.drew ?_ | refine up_drewN ?_ _ | refine up_alloc ?_ _ | refine up_set ?_ _ _ (by first | exact Nat.le_refl _ | (simp; done) | (simp; omega) | omega) | refine up_trans ?_ (by assumption))))))).mono ?_
  rintro e w3 ⟨rfl, hb⟩
  have gc : ∀ o, w3.cell? ⟨w2.heap.size, o, none⟩ = #[S t, .int .i64 0, S [], .slice GA m2.length GC, .int .i64 0][o]? := (fun o => (hb.cell (p := ⟨w2.heap.size, o, none⟩) (by simp <;> omega)).trans (by simp [go_sem])); have gf : ∀ o, w3.frozen? ⟨w2.heap.size, o, none⟩ = false := (fun o => (hb.frozen (p := ⟨w2.heap.size, o, none⟩) (by simp <;> omega)).trans (by simp [go_sem])); have gz : w2.heap.size < w3.heap.size := (by have := hb.size; (try simp at this); omega); have gy := gz
  have hB3 : Below w2.heap.size w2 w3 := by (repeat (first | exact Below.refl _ _ | assumption | refine Below.drew ?_ | refine up_drewN ?_ _ | refine up_alloc ?_ _ | refine up_set ?_ _ _ (by first | exact Nat.le_refl _ | (simp; done) | (simp; omega) | omega) | refine up_trans ?_ (by assumption)))
  replace HO0 := Lib.hid (own_up HO0.out hB3)
  replace HG0 := Lib.hid (own_up HG0.out hB3)
  have hB : Below w2.heap.size w2 w3 := (by (repeat (first | exact Below.refl _ _ | assumption | refine Below.drew ?_ | refine up_drewN ?_ _ | refine up_alloc ?_ _ | refine up_set ?_ _ _ (by first | exact Nat.le_refl _ | (simp; done) | (simp; omega) | omega) | refine up_trans ?_ (by assumption)))); replace dc := up_c hB dz dc; replace df := up_f hB dz df; replace dz := Nat.lt_of_lt_of_le dz hB.size; have sw3 := hB.size; replace hW := up_trans hW hB; clear hB
  clear hb hB3
  go_wp2_with fail
  refine (MK.out _ _ _ (by omega) HG0.out).mono ?_
  rintro e w11 ⟨rfl, hg1, hgr⟩
  have ho0 := HO0.out.kept hgr n2.out
  replace hW := up_grown hW hgr (own_lt HG0.out (by omega))
  replace dc := gk_c hgr dz gd.out dc
  replace df := gk_f hgr dz gd.out df
  replace dz := Nat.lt_of_lt_of_le dz hgr.size
  replace gc := gk_c hgr gz gg.out gc
  replace gf := gk_f hgr gz gg.out gf
  replace gz := Nat.lt_of_lt_of_le gz hgr.size
  have sw11 : w3.heap.size ≤ w11.heap.size := hgr.size
  have hq : m2.length = (mkM 1 m2.length).length := (mkM_len _ _).symm
  have HQ := Lib.hid hq
  have HO1 := Lib.hid ho0
  have HG1 := Lib.hid hg1
  clear hgr HG0 n2 hq gd gg ho0 hg1 HO0
  go_wp2_with fail
  refine (HD.out _ _ (RdL.of_own (by rw [← HQ.out]; exact HG1.out))).mono ?_
  rintro e w12 ⟨rfl, hb⟩
  have ho0 := HO1.out
  have hg1 := HG1.out
  have hB : Below w11.heap.size w11 w12 := (by (repeat (first | exact Below.refl _ _ | assumption | refine Below.drew ?_ | refine up_drewN ?_ _ | refine up_alloc ?_ _ | refine up_set ?_ _ _ (by first | exact Nat.le_refl _ | (simp; done) | (simp; omega) | omega) | refine up_trans ?_ (by assumption)))); replace dc := up_c hB dz dc; replace df := up_f hB dz df; replace dz := Nat.lt_of_lt_of_le dz hB.size; replace gc := up_c hB gz gc; replace gf := up_f hB gz gf; replace gz := Nat.lt_of_lt_of_le gz hB.size; replace ho0 := own_up ho0 hB; replace hg1 := own_up hg1 hB; have sw12 := hB.size; replace hW := up_trans hW hB; clear hB
  have HO0 := Lib.hid ho0
  replace HG1 := Lib.hid hg1
  clear hb ho0 hg1 HO1
  have p1 : ¬ ((1 + 7 * m2.length : Nat) : Int) < 0 := by omega
  go_wp2_with fail
  refine (FI.out _).mono ?_
  rintro e w14 ⟨h0, rfl, hh0, hb⟩
  obtain ⟨UA, UC, rfl, -, -⟩ := (RdL.of_own (f := moC) (bs := m2) hh0).form
  have ho0 := HO0.out
  have hg1 := HG1.out
  have hB : Below w12.heap.size w12 w14 := (by (repeat (first | exact Below.refl _ _ | assumption | refine Below.drew ?_ | refine up_drewN ?_ _ | refine up_alloc ?_ _ | refine up_set ?_ _ _ (by first | exact Nat.le_refl _ | (simp; done) | (simp; omega) | omega) | refine up_trans ?_ (by assumption)))); replace dc := up_c hB dz dc; replace df := up_f hB dz df; replace dz := Nat.lt_of_lt_of_le dz hB.size; replace gc := up_c hB gz gc; replace gf := up_f hB gz gf; replace gz := Nat.lt_of_lt_of_le gz hB.size; replace ho0 := own_up ho0 hB; replace hg1 := own_up hg1 hB; have sw14 := hB.size; replace hW := up_trans hW hB; clear hB
  replace HO0 := Lib.hid ho0
  replace HG1 := Lib.hid hg1
  have HH0 := Lib.hid hh0
  clear hb ho0 hg1 hh0
  have sx7 : ¬ w14.heap.size = w1.heap.size := by omega
  have sx8 : ¬ w1.heap.size = w14.heap.size := by omega
  go_wp2_with fail
  refine (EQ.out _ _ _ (RdL.of_own (own_up HH0.out (by (repeat (first | exact Below.refl _ _ | assumption | refine Below.drew ?_ | refine up_drewN ?_ _ | refine up_alloc ?_ _ | refine up_set ?_ _ _ (by first | exact Nat.le_refl _ | (simp; done) | (simp; omega) | omega) | refine up_trans ?_ (by assumption)))))) (RdL.of_own (own_up HO0.out (by (repeat (first | exact Below.refl _ _ | assumption | refine Below.drew ?_ | refine up_drewN ?_ _ | refine up_alloc ?_ _ | refine up_set ?_ _ _ (by first | exact Nat.le_refl _ | (simp; done) | (simp; omega) | omega) | refine up_trans ?_ (by assumption))))))).mono ?_
  rintro e w15 ⟨rfl, hb⟩
  have hB15 : Below w14.heap.size w14 w15 := by (repeat (first | exact Below.refl _ _ | assumption | refine Below.drew ?_ | refine up_drewN ?_ _ | refine up_alloc ?_ _ | refine up_set ?_ _ _ (by first | exact Nat.le_refl _ | (simp; done) | (simp; omega) | omega) | refine up_trans ?_ (by assumption)))
  replace HG1 := Lib.hid (own_up HG1.out hB15)
  have hB : Below w14.heap.size w14 w15 := (by (repeat (first | exact Below.refl _ _ | assumption | refine Below.drew ?_ | refine up_drewN ?_ _ | refine up_alloc ?_ _ | refine up_set ?_ _ _ (by first | exact Nat.le_refl _ | (simp; done) | (simp; omega) | omega) | refine up_trans ?_ (by assumption)))); replace gc := up_c hB gz gc; replace gf := up_f hB gz gf; replace gz := Nat.lt_of_lt_of_le gz hB.size; have sw15 := hB.size; replace hW := up_trans hW hB; clear hB
  clear hb HH0 HO0 dc df dz dy hB15
  go_wp2_with fail
  refine (HD.out _ _ (RdL.of_own (by rw [← HQ.out]; exact HG1.out))).mono ?_
  rintro e w16 ⟨rfl, hb⟩
  have hB : Below w15.heap.size w15 w16 := (by (repeat (first | exact Below.refl _ _ | assumption | refine Below.drew ?_ | refine up_drewN ?_ _ | refine up_alloc ?_ _ | refine up_set ?_ _ _ (by first | exact Nat.le_refl _ | (simp; done) | (simp; omega) | omega) | refine up_trans ?_ (by assumption)))); have sw16 := hB.size; replace hW := up_trans hW hB; clear hB
  clear hb
  go_wp2_with fail
  go_ret
  exact ⟨rfl, hW⟩

end Go.Proofs.Ytlejfmngpbcdhaa
