/- What is proved here: HistoryDo in the program, when it is done. No condition. -/
import Derived.Test.YtjcdklkdpcncgaaHistJ
namespace Go.Proofs.Ytjcdklkdpcncgaa
open Go.RowKit
set_option linter.unusedVariables false

set_option maxRecDepth 100000 in
set_option maxHeartbeats 1000000 in
theorem implHistoryDo_done (v : Value) (ms : List Mo) (a : Int) (s : List UInt8) (x : Ch) (w : World) (o : List (List UInt8)) (h : RdM w v ms) (hg : HGood ms a s o) (hp : x.p.length ≤ 1048576) (hok : okF s x = true) (h30 : ms.length ≠ 30) :
    Calls Try.prog 25 #[.agg #[v, .int .i64 a], S s, chAgg x] w (HRes (ms ++ [⟨a, x, rvF s x⟩]) ms.length (apF s x) true w) := by
  have hn30 := hg.n30
  have hn1 := hg.n1
  have hsl := tv_len hg.t
  obtain ⟨A, c, rfl, _, _⟩ := h.1.form
  have T := Lib.hid (fun (w' : World) (hb : Below w.heap.size w w') => implHistoryValid_any (.slice A ms.length c) ms a s w' (h.up hb) (by omega) (by unfold maxLen; omega))
  have C := Lib.hid (fun (w' : World) (hb : Below w.heap.size w w') => clone_any (.slice A ms.length c) ms a w' (h.up hb) (by omega))
  have R := Lib.hid (fun w' => implReverse_any s x w' hg.t hp)
  have Q := Lib.hid (fun w' => applyF_any s x w' hg.t hp)
  have hRp : (rvF s x).p.length ≤ 1048576 := by unfold rvF; simp only [List.length_take, List.length_drop]; omega
  unfold AplPost at Q
  rw [hok] at Q
  generalize apF s x = y at *
  unfold RvPost at R
  rw [hok] at R
  simp only [if_true] at R
  generalize rvF s x = rv at *
  obtain ⟨ra, rc, rp⟩ := rv
  obtain ⟨fa, fc, fp⟩ := x
  unfold chAgg at R ⊢
  simp only at Q hRp
  unfold chAgg at Q
  simp only at Q
  simp only at R
  have HG := Lib.hid hg
  have HMP := Lib.hid (show ∀ m ∈ ms ++ [(⟨a, ⟨fa, fc, fp⟩, ⟨ra, rc, rp⟩⟩ : Mo)], m.f.p.length ≤ 1048576 ∧ m.b.p.length ≤ 1048576 from fun m hm => by rw [List.mem_append] at hm; rcases hm with hm | hm; exact h.2 m hm; rw [List.mem_singleton] at hm; subst hm; exact ⟨hp, hRp⟩)
  clear h hg hok hp hRp
  have h31 : ((ms.length : Int) == 30) = false := beq_eq_false_iff_ne.2 (by omega)
  obtain ⟨i0, hi, hz0, hz1, hz2⟩ := info_parts mo_info
  unfold HRes
  go_enter Try.func25, Try.ntmps25
  go_wp2_with fail
  refine (T.out _ (by (repeat (first | exact Below.refl _ _ | assumption | refine Below.drew ?_ | refine up_drewN ?_ _ | refine up_alloc ?_ _ | refine up_set ?_ _ _ (by first | exact Nat.le_refl _ | (simp; done) | (simp; omega) | omega) | refine up_trans ?_ (by assumption))))).mono ?_
  rintro e w1 ⟨ok, rfl, hh, hb⟩
  obtain rfl : ok = true := hh.2 ⟨o, HG.out⟩
  have xc : ∀ o, w1.cell? ⟨w.heap.size, o, none⟩ = #[.slice A ms.length c, .int .i64 a][o]? := (fun o => (hb.cell (p := ⟨w.heap.size, o, none⟩) (by simp <;> omega)).trans (by simp [go_sem])); have xf : ∀ o, w1.frozen? ⟨w.heap.size, o, none⟩ = false := (fun o => (hb.frozen (p := ⟨w.heap.size, o, none⟩) (by simp <;> omega)).trans (by simp [go_sem])); have xz : w.heap.size < w1.heap.size := (by have := hb.size; (try simp at this); omega); have xy := xz
  have dc : ∀ o, w1.cell? ⟨w.heap.size + 1, o, none⟩ = #[.int .i64 fa, .int .i64 fc, S fp][o]? := (fun o => (hb.cell (p := ⟨w.heap.size + 1, o, none⟩) (by simp <;> omega)).trans (by simp [go_sem])); have df : ∀ o, w1.frozen? ⟨w.heap.size + 1, o, none⟩ = false := (fun o => (hb.frozen (p := ⟨w.heap.size + 1, o, none⟩) (by simp <;> omega)).trans (by simp [go_sem])); have dz : w.heap.size + 1 < w1.heap.size := (by have := hb.size; (try simp at this); omega); have dy := dz
  have yc : ∀ o, w1.cell? ⟨w.heap.size + 2, o, none⟩ = #[.slice none 0 0, .int .i64 0][o]? := (fun o => (hb.cell (p := ⟨w.heap.size + 2, o, none⟩) (by simp <;> omega)).trans (by simp [go_sem])); have yf : ∀ o, w1.frozen? ⟨w.heap.size + 2, o, none⟩ = false := (fun o => (hb.frozen (p := ⟨w.heap.size + 2, o, none⟩) (by simp <;> omega)).trans (by simp [go_sem])); have yz : w.heap.size + 2 < w1.heap.size := (by have := hb.size; (try simp at this); omega); have yy := yz
  have hW : Below w.heap.size w w1 := by (repeat (first | exact Below.refl _ _ | assumption | refine Below.drew ?_ | refine up_drewN ?_ _ | refine up_alloc ?_ _ | refine up_set ?_ _ _ (by first | exact Nat.le_refl _ | (simp; done) | (simp; omega) | omega) | refine up_trans ?_ (by assumption)))
  have hs1 : w.heap.size + 3 ≤ w1.heap.size := by omega
  clear hb hh T xy dy yy
  go_wp2_with fail
  refine (C.out _ (by (repeat (first | exact Below.refl _ _ | assumption | refine Below.drew ?_ | refine up_drewN ?_ _ | refine up_alloc ?_ _ | refine up_set ?_ _ _ (by first | exact Nat.le_refl _ | (simp; done) | (simp; omega) | omega) | refine up_trans ?_ (by assumption))))).mono ?_
  rintro e w2 ⟨v2, rfl, ho2, hb⟩
  have hB : Below w1.heap.size w1 w2 := (by (repeat (first | exact Below.refl _ _ | assumption | refine Below.drew ?_ | refine up_drewN ?_ _ | refine up_alloc ?_ _ | refine up_set ?_ _ _ (by first | exact Nat.le_refl _ | (simp; done) | (simp; omega) | omega) | refine up_trans ?_ (by assumption)))); replace xc := up_c hB xz xc; replace xf := up_f hB xz xf; replace xz := Nat.lt_of_lt_of_le xz hB.size; replace dc := up_c hB dz dc; replace df := up_f hB dz df; replace dz := Nat.lt_of_lt_of_le dz hB.size; replace yc := up_c hB yz yc; replace yf := up_f hB yz yf; replace yz := Nat.lt_of_lt_of_le yz hB.size; have sw2 := hB.size; replace hW := up_trans hW hB; clear hB
  have HO := Lib.hid (own_base ho2 hs1)
  obtain ⟨A2, c2, rfl, -, -⟩ := (RdL.of_own (f := moC) (bs := ms) ho2).form
  have hs2 : w.heap.size + 3 ≤ w2.heap.size := by have := hb.size; omega
  have HOL := Lib.hid (fun g hg => (HO.out.lt g hg).2)
  clear hb ho2 C hs1
  have ne1 : ¬ w2.heap.size = w.heap.size + 1 := by omega
  have ne2 : ¬ w.heap.size + 1 = w2.heap.size := by omega
  go_wp2_with fail
  refine (R.out _).mono ?_
  rintro e w3 ⟨rfl, hb⟩
  have zc : ∀ o, w3.cell? ⟨w2.heap.size, o, none⟩ = #[.slice A2 ms.length c2, .int .i64 a][o]? := (fun o => (hb.cell (p := ⟨w2.heap.size, o, none⟩) (by simp <;> omega)).trans (by simp [go_sem])); have zf : ∀ o, w3.frozen? ⟨w2.heap.size, o, none⟩ = false := (fun o => (hb.frozen (p := ⟨w2.heap.size, o, none⟩) (by simp <;> omega)).trans (by simp [go_sem])); have zz : w2.heap.size < w3.heap.size := (by have := hb.size; (try simp at this); omega); have zy := zz
  have hB : Below w2.heap.size w2 w3 := by (repeat (first | exact Below.refl _ _ | assumption | refine Below.drew ?_ | refine up_drewN ?_ _ | refine up_alloc ?_ _ | refine up_set ?_ _ _ (by first | exact Nat.le_refl _ | (simp; done) | (simp; omega) | omega) | refine up_trans ?_ (by assumption)))
  replace xc := up_c hB xz xc
  replace xf := up_f hB xz xf
  replace dc := up_c hB dz dc
  replace df := up_f hB dz df
  replace yc := up_c hB yz yc
  replace yf := up_f hB yz yf
  replace xz := Nat.lt_of_lt_of_le xz hB.size
  replace dz := Nat.lt_of_lt_of_le dz hB.size
  replace yz := Nat.lt_of_lt_of_le yz hB.size
  replace hW := up_trans hW hB
  replace HO := Lib.hid (own_up HO.out hB)
  clear hb hB zy
  go_wp2_with fail
  refine (Q.out _).mono ?_
  rintro e w5 ⟨tq, rfl, htq, hb⟩
  have uc : ∀ o, w5.cell? ⟨w3.heap.size, o, none⟩ = #[.int .i64 ra, .int .i64 rc, S rp][o]? := (fun o => (hb.cell (p := ⟨w3.heap.size, o, none⟩) (by simp <;> omega)).trans (by simp [go_sem])); have uf : ∀ o, w5.frozen? ⟨w3.heap.size, o, none⟩ = false := (fun o => (hb.frozen (p := ⟨w3.heap.size, o, none⟩) (by simp <;> omega)).trans (by simp [go_sem])); have uz : w3.heap.size < w5.heap.size := (by have := hb.size; (try simp at this); omega); have uy := uz
  have hB : Below w3.heap.size w3 w5 := by (repeat (first | exact Below.refl _ _ | assumption | refine Below.drew ?_ | refine up_drewN ?_ _ | refine up_alloc ?_ _ | refine up_set ?_ _ _ (by first | exact Nat.le_refl _ | (simp; done) | (simp; omega) | omega) | refine up_trans ?_ (by assumption)))
  replace xc := up_c hB xz xc
  replace xf := up_f hB xz xf
  replace dc := up_c hB dz dc
  replace df := up_f hB dz df
  replace yc := up_c hB yz yc
  replace yf := up_f hB yz yf
  replace xz := Nat.lt_of_lt_of_le xz hB.size
  replace dz := Nat.lt_of_lt_of_le dz hB.size
  replace yz := Nat.lt_of_lt_of_le yz hB.size
  replace hW := up_trans hW hB
  replace HO := Lib.hid (own_up HO.out hB)
  replace zc := up_c hB zz zc
  replace zf := up_f hB zz zf
  replace zz := Nat.lt_of_lt_of_le zz hB.size
  obtain rfl := htq trivial
  clear hb hB uy htq
  have hA1 : Below w5.heap.size w5 (w5.alloc (.cells #[.int .i64 a, .int .i64 fa, .int .i64 fc, S fp, .int .i64 ra, .int .i64 rc, S rp] 56)) := up_alloc (Below.refl _ _) _
  have hne1 : ∀ b, (b < w.heap.size + 3 ∨ b = w2.heap.size) → ∀ g, Value.ownBlock (.slice A2 ms.length c2) = some g → b ≠ g := fun b hb g hg => by have := HOL.out g hg; have := (HO.out.lt g hg).1; omega
  have hge : ∀ g, Value.ownBlock (.slice A2 ms.length c2) = some g → w.heap.size ≤ g := fun g hg => by have := (HO.out.lt g hg).1; omega
  have HN := Lib.hid hne1
  have HGE := Lib.hid hge
  have HA1 := Lib.hid hA1
  have n5 : (w5.alloc (.cells #[.int .i64 a, .int .i64 fa, .int .i64 fc, S fp, .int .i64 ra, .int .i64 rc, S rp] 56)).heap.size = w5.heap.size + 1 := by simp
  have N5 := Lib.hid n5
  have XC := Lib.hid (And.intro yc (And.intro yf (And.intro zc (And.intro zf hW))))
  clear df xf hne1 hge hA1 n5
  go_wp2_with (at_builtin; refine wpList_append_own_at _ rfl _ _ 26 rfl (w.heap.size + 3) 56 i0 _ 7 72 Try.underlying26 hi hz0 hz1 hz2 rfl (by decide) _ _ _ rfl (HO.out.alloc _) ⟨w5.heap.size, 0, none⟩ 1 1 [.int .i64 a, .int .i64 fa, .int .i64 fc, S fp, .int .i64 ra, .int .i64 rc, S rp] rfl rfl (cells_new _ _ _) (by intro u hu; simp at hu; rcases hu with rfl | rfl | rfl | rfl | rfl | rfl | rfl <;> rfl) (by unfold maxLen; omega) (by omega) (by simp; omega) ?_; intro v6 w6 how hgr _ hob; have HV := Lib.hid (show ∀ g, v6.ownBlock = some g → g ≠ w2.heap.size from fun g hg => hob.elim (fun h e => HN.out _ (Or.inr rfl) g (h.symm.trans hg) e.symm) (fun h e => by have h2 := h.symm.trans hg; injection h2 with h3; rw [N5.out] at h3; omega)); clear hob; have hgr2 : World.grownBy (w5.alloc (.cells #[.int .i64 a, .int .i64 fa, .int .i64 fc, S fp, .int .i64 ra, .int .i64 rc, S rp] 56)) w6 (Value.ownBlock (.slice A2 ms.length c2)) := hgr; obtain ⟨yc0, yf0, zc0, zf0, hW0⟩ := XC.out; replace yc := upg_c hgr2 (by rw [N5.out]; omega) (HN.out _ (Or.inl (by omega))) (up_c HA1.out yz yc0); replace yf := upg_f hgr2 (by rw [N5.out]; omega) (HN.out _ (Or.inl (by omega))) (up_f HA1.out yz yf0); replace zc := upg_c hgr2 (by rw [N5.out]; omega) (HN.out _ (Or.inr rfl)) (up_c HA1.out zz zc0); replace zf := upg_f hgr2 (by rw [N5.out]; omega) (HN.out _ (Or.inr rfl)) (up_f HA1.out zz zf0); have hW6 : Below w.heap.size w w6 := up_grown (up_trans hW0 HA1.out) hgr2 HGE.out; have sz6 : w5.heap.size ≤ w6.heap.size := (by have := hgr2.size; rw [N5.out] at this; omega); have HX := Lib.hid (show Own w6 (w.heap.size + 3) 56 7 v6 (ms ++ [(⟨a, ⟨fa, fc, fp⟩, ⟨ra, rc, rp⟩⟩ : Mo)]).length ((ms ++ [(⟨a, ⟨fa, fc, fp⟩, ⟨ra, rc, rp⟩⟩ : Mo)]).flatMap moC) by rw [List.length_append, List.flatMap_append]; exact how); obtain ⟨A6, c6, hv6, -, -⟩ := (RdL.of_own (f := moC) HX.out).form; rw [List.length_append] at hv6; replace hv6 : v6 = .slice A6 (ms.length + 1) c6 := hv6; subst hv6; have xz6 : w.heap.size + 2 < w6.heap.size := (by omega); have zz6 : w2.heap.size < w6.heap.size := (by omega); clear hgr hgr2 how XC hW yc0 yf0 zc0 zf0 hW0 xc dc uc uf uz)
  have ne3 : ¬ w2.heap.size = w.heap.size + 2 := by omega
  have ne4 : ¬ w.heap.size + 2 = w2.heap.size := by omega
  go_wp2_with fail
  have HX2 := Lib.hid (own_setn (own_setn HX.out ⟨w2.heap.size, 0, none⟩ (.slice A6 (ms.length + 1) c6) (fun g hg => HV.out g hg)) ⟨w2.heap.size, 1, none⟩ (.int .i64 ms.length) (fun g hg => HV.out g hg))
  refine (clone_any _ (ms ++ [(⟨a, ⟨fa, fc, fp⟩, ⟨ra, rc, rp⟩⟩ : Mo)]) ms.length _ ⟨RdL.of_own (f := moC) HX2.out, HMP.out⟩ (by simp; omega)).mono ?_
  rintro e w7 ⟨v7, rfl, ho7, hb⟩
  have hW7 : Below w.heap.size w w7 := up_trans (by (repeat (first | exact Below.refl _ _ | assumption | refine Below.drew ?_ | refine up_drewN ?_ _ | refine up_alloc ?_ _ | refine up_set ?_ _ _ (by first | exact Nat.le_refl _ | (simp; done) | (simp; omega) | omega) | refine up_trans ?_ (by assumption)))) hb
  have ys1 : ∀ o, ((w6.setCell ⟨w2.heap.size, 0, none⟩ (.slice A6 (ms.length + 1) c6)).setCell ⟨w2.heap.size, 1, none⟩ (.int .i64 ms.length)).cell? ⟨w.heap.size + 2, o, none⟩ = (#[.slice none 0 0, .int .i64 0] : Array Value)[o]? := fun o => (World.cell?_of_block (a := ⟨w.heap.size + 2, o, none⟩) (by rw [Below.heap_setCell _ _ _ _ (by simp; omega), Below.heap_setCell _ _ _ _ (by simp; omega)])).trans (yc o)
  have yf1 : ∀ o, ((w6.setCell ⟨w2.heap.size, 0, none⟩ (.slice A6 (ms.length + 1) c6)).setCell ⟨w2.heap.size, 1, none⟩ (.int .i64 ms.length)).frozen? ⟨w.heap.size + 2, o, none⟩ = false := fun o => (World.frozen?_of_block (a := ⟨w.heap.size + 2, o, none⟩) (by rw [Below.heap_setCell _ _ _ _ (by simp; omega), Below.heap_setCell _ _ _ _ (by simp; omega)])).trans (yf o)
  replace yc := up_c hb (by simp; omega) ys1
  replace yf := up_f hb (by simp; omega) yf1
  have yz7 : w.heap.size + 2 < w7.heap.size := by have := hb.size; simp at this; omega
  have HO7 := Lib.hid (own_base (base' := w.heap.size + 3) ho7 (by simp; omega))
  obtain ⟨A7, c7, hv7, -, -⟩ := (RdL.of_own (f := moC) HO7.out).form
  rw [List.length_append] at hv7
  replace hv7 : v7 = .slice A7 (ms.length + 1) c7 := hv7
  subst hv7
  clear hb ho7 ys1 yf1 HX2
  go_wp2_with fail
  refine bodyPost_ret (v := .tuple #[.agg #[.slice A7 (ms.length + 1) c7, .int .i64 ms.length], S tq, .bool true]) (by simp [results, Try.results25, go_sem, yc]) rfl ⟨_, rfl, ?_, by have hQ := hW7; (repeat (first | exact Below.refl _ _ | assumption | refine Below.drew ?_ | refine up_drewN ?_ _ | refine up_alloc ?_ _ | refine up_set ?_ _ _ (by first | exact Nat.le_refl _ | (simp; done) | (simp; omega) | omega) | refine up_trans ?_ (by assumption)))⟩
  exact own_base (own_set (own_set HO7.out _ _ (by simp)) _ _ (by simp)) (by omega)

end Go.Proofs.Ytjcdklkdpcncgaa
