/- What is proved here: contracts of RowTexts in the program and in the reference. Condition (the program's): the cell of the library's MaxLen holds an int. -/
import Derived.Test.YtcjgllbhmghkeaaDoorWr5
namespace Go.Proofs.YtcjgllbhmghkeaaDoor
open Go.RowKit
set_option linter.unusedVariables false

theorem strs_snoc {w : World} {B k : Nat} {v : Value} {ts : List (List UInt8)} {x : List UInt8} (hk : k < ts.length) (hx : x = ts[k]) (h : Own w B 9 1 v (k + 1) ((ts.take k).flatMap strC ++ [S x])) : Own w B 9 1 v (k + 1) ((ts.take (k + 1)).flatMap strC) := by
  rw [List.take_succ_eq_append_getElem hk, List.flatMap_append, ← hx]
  simpa [strC] using h
theorem strs_form {w : World} {B k : Nat} {e : TypeId} {v : Value} {xs : List Value} (h : Own w B e 1 v k xs) : ∃ A c, v = .slice A k c := by
  obtain ⟨_, _, A, c, rfl, _⟩ := Rd.of_own h
  exact ⟨A, c, rfl⟩

theorem rd_cell1 {w : World} {n : Nat} {x : Value} (hc : w.cell? ⟨n, 0, none⟩ = some x) (hn : n < w.heap.size) : Rd w 1 (.slice (some ⟨n, 0, none⟩) 1 1) 1 [x] := by
  refine ⟨rfl, by unfold maxLen; omega, _, _, rfl, Nat.le_refl _, fun _ => ⟨n, 0, rfl, hn, ?_⟩⟩
  rintro (_ | j) u hu
  · simp at hu
    subst hu
    exact hc
  · simp at hu

/-- append of one cell, as one step of a region that draws its order; the row's block stays or is new. -/
theorem step_append_blk {P : Program} (w : World) {ops : Array Oper} {o : Oper} {a : Act} {K : Act → World → Prop} {Q : Exit → Act → World → Prop} {E : Prop} (hgd : o.guard = none) (s x : Operand) (t : TypeId)
    (ho : o.op = .call { callee := .builtin .append, args := #[s, x], argTypes := #[t, t] })
    (base : Nat) (e : TypeId) (i : TypeInfo) (z : Value) (bytes : Nat) (ht : P.underlying t = some (.slice e)) (hi : P.info? e = some i) (hz : i.zero = some z)
    (hsize : i.size = 1) (hby : i.bytes = bytes) (hzs : z.cells.size = 1)
    (v : Value) (n : Nat) (xs : List Value) (hs : a.eval s = v) (hown : w.ownsRow base e 1 v n xs)
    (b : Nat) (u : Value) (hx : a.eval x = .slice (some ⟨b, 0, none⟩) 1 1) (hr : w.cell? ⟨b, 0, none⟩ = some u) (h1 : u.oneCell' = true)
    (h63 : n + 1 ≤ maxLen) (hbytes : (n + 1) * bytes ≤ 140737488355328) (hbase : base ≤ w.heap.size)
    (h : ∀ v' w', w'.ownsRow base e 1 v' (n + 1) (xs ++ [u]) → w.grownBy w' v.ownBlock → (v'.ownBlock = v.ownBlock ∨ v'.ownBlock = some w.heap.size) → K (a.put o.dst v') w') : if Region.wanted o (yielded ops a.tmps) = true then Oper.wp P o a w K Q else E := by
  have hw : Region.wanted o (yielded ops a.tmps) = true := by simp [Region.wanted, hgd]
  rw [if_pos hw]
  obtain ⟨v', w', hrun, h2, h3, _, h4⟩ := run_append_own_at (P := P) w base t o.type e i z 1 bytes ht hi hz hsize hby hzs (by decide) v n xs hown ⟨b, 0, none⟩ 1 1 [u] rfl (by
    rintro (_ | j) y hy
    · simp at hy
      subst hy
      exact hr
    · simp at hy) (by intro y hy; simp at hy; subst hy; exact h1) h63 hbytes hbase
  unfold Oper.wp execOp
  simp only [ho, resolve, invoke, builtin, Sem.run_bind, Sem.run_pure, Result.andThen_ok, List.map_toArray, List.map_cons, List.map_nil, hs, hx, hrun]
  exact h v' w' h2 h3 h4
theorem blk_step {u v : Value} {b h : Nat} (h1 : u.ownBlock ≠ some b) (hv : v.ownBlock = u.ownBlock ∨ v.ownBlock = some h) (hb : b < h) : v.ownBlock ≠ some b := by
  rcases hv with hv | hv
  · exact fun e => h1 (hv.symm.trans e)
  · intro e
    have := hv.symm.trans e
    simp at this
    omega
theorem rd_blk {w w' : World} {m : Nat} {α : Type} {f : α → List Value} {A : Option Addr} {n c : Nat} {bs : List α} {row : Option Nat} (h : RdL w m f (.slice A n c) bs) (hg : w.grownBy w' row) (hne : ∀ x, A = some x → row ≠ some x.block) : RdL w' m f (.slice A n c) bs :=
  Rd.grown h hg (by
    rcases A with _ | x
    · exact .inl rfl
    · exact .inr fun e => hne x rfl (e ▸ rfl))

set_option maxRecDepth 100000 in
set_option maxHeartbeats 2000000 in
theorem implRowTexts_any (s : List UInt8) (wd : Int) (w : World) (hs : s.length ≤ maxLen) (hm : MX w) :
    Calls Tryd.prog 14 #[S s, .int .i64 wd] w (StrsPost (wtT s wd) w) := by
  unfold StrsPost
  obtain ⟨i0, hi0, hz0, hz1, hz2⟩ := info_parts str_info
  have R := Lib.hid (fun w' (hb : Below w.heap.size w w') => implWrapRows_any s wd w' hs (hm.up hb))
  have hn := wrR_len s wd
  have HIN := Lib.hid (wrR_in s wd)
  have HT := Lib.hid (show ∀ k (h : k < (wrR s wd).length) (h2 : k < (wtT s wd).length), (wtT s wd)[k] = (s.take ((wrR s wd)[k]).2).drop ((wrR s wd)[k]).1 by intro k h h2; simp [wtT])
  have hlen : (wtT s wd).length = (wrR s wd).length := by simp [wtT]
  generalize wtT s wd = ts at *
  generalize wrR s wd = rs at *
  rw [hlen]
  unfold WrPost at R
  unfold maxLen at hs
  clear hm
  go_enter Tryd.func14, Tryd.ntmps14
  go_wp2_with fail
  refine (R.out _ (by (repeat (first | exact Below.refl _ _ | assumption | refine Below.drew ?_ | refine up_drewN ?_ _ | refine up_alloc ?_ _ | refine up_set ?_ _ _ (by first | exact Nat.le_refl _ | (simp; done) | (simp; omega) | omega) | refine up_trans ?_ (by assumption))))).mono ?_
  rintro e w1 ⟨v, rfl, ho, hb⟩
  have HW := Lib.hid (show Below w.heap.size w w1 by (repeat (first | exact Below.refl _ _ | assumption | refine Below.drew ?_ | refine up_drewN ?_ _ | refine up_alloc ?_ _ | refine up_set ?_ _ _ (by first | exact Nat.le_refl _ | (simp; done) | (simp; omega) | omega) | refine up_trans ?_ (by assumption))))
  have HR := Lib.hid (RdL.of_own (f := rowC) (bs := rs) ho)
  obtain ⟨A, c, rfl, -, -⟩ := HR.out.form
  obtain ⟨B0, hB0⟩ : ∃ B0, B0 = w1.heap.size := ⟨_, rfl⟩
  have hwB : w.heap.size ≤ B0 := by have := HW.out.size; omega
  clear hb ho R
  go_wp2_with fail
  go_loopw [5, 7, 12] (fun out r i wr => ∃ (k : Nat) (OA : Option Addr) (OC : Nat), k ≤ rs.length ∧ i = .int .i64 k ∧ out = .slice OA k OC ∧ Hid (Own wr B0 9 1 (.slice OA k OC) k ((ts.take k).flatMap strC)) ∧ Hid (Below w1.heap.size w1 wr)) (fun _ _ i _ => rs.length - (intOf i).toNat)
  case atStart => exact ⟨0, none, 0, Nat.zero_le _, rfl, rfl, Lib.hid (World.ownsRow_nil _ _ _ _), Lib.hid (Below.refl _ _)⟩
  case round =>
    obtain ⟨k, OA, OC, hk, rfl, rfl, HO, HB⟩ := hrel
    by_cases hlt : k < rs.length
    · have i1 : (0 : Int) ≤ (k : Int) := by omega
      have i2 : (k : Int) < (rs.length : Int) := by omega
      obtain ⟨b, o, rfl, hbz, c0, c1⟩ := row_cells (HR.out.up HB.out) hlt
      have hin := HIN.out _ (List.getElem_mem hlt)
      have HX := Lib.hid (HT.out k hlt (by omega))
      have hs2 := HB.out.size
      obtain ⟨r, hr⟩ : ∃ r, r = rs[k] := ⟨_, rfl⟩
      rw [← hr] at c0 c1 HX hin
      clear hr
      obtain ⟨ra, rb⟩ := r
      simp only at c0 c1 HX hin
      have j1 : (0 : Int) ≤ (ra : Int) := by omega
      have j2 : (ra : Int) ≤ (rb : Int) := by omega
      have j3 : (rb : Int) ≤ (s.length : Int) := by omega
      clear hin
      go_wp2_with (at_builtin; go_loud (
                     refine wpList_append_own _ rfl _ _ 22 rfl B0 9 i0 (S []) 1 16 Tryd.underlying22 hi0 hz0 hz1 hz2 rfl (by decide) _ _ _ rfl ((HO.out.alloc _).alloc _) ⟨wr.heap.size + 1, 0, none⟩ 1 1 [S ((s.take rb).drop ra)] rfl rfl (by intro j u hu; simpa using cells_new (wr.alloc _) [S ((s.take rb).drop ra)] 9 j u hu) (by intro u hu; simp at hu; subst hu; rfl) (by unfold maxLen; omega) (by omega) (by first | omega | (simp; done) | (simp; omega)) ?_
                     intro v9 w9 how hgr _
                     have HO9 := Lib.hid (strs_snoc (by omega) HX.out.symm how)
                     obtain ⟨A9, c9, rfl⟩ := strs_form how
                     have HB9 := Lib.hid (up_own_grown (up_alloc (up_alloc HB.out _) _) ((HO.out.alloc _).alloc _) hgr (by omega))
                     clear how hgr))
      go_roundw
      case rel => exact ⟨k + 1, A9, c9, by omega, by go_num, rfl, HO9, HB9⟩
      case measure => simp [intOf]; omega
    · obtain rfl : k = rs.length := by omega
      have HF := Lib.hid (show ts.take rs.length = ts by rw [← hlen, List.take_length])
      go_wp2_with fail
      go_ret
      exact ⟨_, rfl, by have := own_base HO.out hwB; rwa [HF.out] at this, up_trans HW.out HB.out⟩

set_option maxRecDepth 100000 in
set_option maxHeartbeats 2000000 in
theorem specRowTexts_any (s : List UInt8) (wd : Int) (w : World) (hs : s.length ≤ maxLen) :
    Calls Tryd.prog 20 #[S s, .int .i64 wd] w (StrsPost (wtT s wd) w) := by
  unfold StrsPost
  obtain ⟨i0, hi0, hz0, hz1, hz2⟩ := info_parts str_info
  have R := Lib.hid (fun w' => specWrapRows_any s wd w' hs)
  have hn := wrR_len s wd
  have HIN := Lib.hid (wrR_in s wd)
  have HT := Lib.hid (show ∀ k (h : k < (wrR s wd).length) (h2 : k < (wtT s wd).length), (wtT s wd)[k] = (s.take ((wrR s wd)[k]).2).drop ((wrR s wd)[k]).1 by intro k h h2; simp [wtT])
  have hlen : (wtT s wd).length = (wrR s wd).length := by simp [wtT]
  generalize wtT s wd = ts at *
  generalize wrR s wd = rs at *
  rw [hlen]
  unfold WrPost at R
  unfold maxLen at hs
  have HE := Lib.hid (own_emptyS w w.heap.size (Nat.le_refl _))
  have HW0 : Hid (Below w.heap.size w (w.alloc (.cells #[] 9))) := Lib.hid (by (repeat (first | exact Below.refl _ _ | assumption | refine Below.drew ?_ | refine up_drewN ?_ _ | refine up_alloc ?_ _ | refine up_set ?_ _ _ (by first | exact Nat.le_refl _ | (simp; done) | (simp; omega) | omega) | refine up_trans ?_ (by assumption))))
  go_enter Tryd.func20, Tryd.ntmps20
  go_wp2_with fail
  refine (R.out _).mono ?_
  rintro e w1 ⟨v, rfl, ho, hb⟩
  have HW := Lib.hid (up_trans HW0.out hb)
  have HR := Lib.hid (RdL.of_own (f := rowC) (bs := rs) ho)
  have HE1 := Lib.hid (own_up HE.out hb)
  obtain ⟨A, c, rfl, -, -⟩ := HR.out.form
  have HN : Hid (∀ x, A = some x → (Value.slice (some ⟨w.heap.size, 0, none⟩) 0 0).ownBlock ≠ some x.block) := Lib.hid (by
    intro x hx e
    subst hx
    have h1 := (ho.lt x.block rfl).1
    have h2 : w.heap.size = x.block := by injection e
    simp at h1
    omega)
  clear hb ho R HE HW0
  go_wp2_with fail
  go_loopw [5, 7] (fun out i wr => ∃ (k : Nat) (OA : Option Addr) (OC : Nat), k ≤ rs.length ∧ i = .int .i64 k ∧ out = .slice OA k OC ∧ Hid (Own wr w.heap.size 9 1 (.slice OA k OC) k ((ts.take k).flatMap strC)) ∧ Hid (Below w.heap.size w wr) ∧ Hid (RdL wr 2 rowC (.slice A rs.length c) rs) ∧ Hid (∀ x, A = some x → (Value.slice OA k OC).ownBlock ≠ some x.block)) (fun _ i _ => rs.length - (intOf i).toNat)
  case atStart => exact ⟨0, _, _, Nat.zero_le _, rfl, rfl, HE1, HW, HR, HN⟩
  case round =>
    obtain ⟨k, OA, OC, hk, rfl, rfl, HO, HB, HR, HN⟩ := hrel
    by_cases hlt : k < rs.length
    · have i1 : (0 : Int) ≤ (k : Int) := by omega
      have i2 : (k : Int) < (rs.length : Int) := by omega
      obtain ⟨b, o, rfl, hbz, c0, c1⟩ := row_cells HR.out hlt
      have hin := HIN.out _ (List.getElem_mem hlt)
      have HX := Lib.hid (HT.out k hlt (by omega))
      have hs2 := HB.out.size
      obtain ⟨r, hr⟩ : ∃ r, r = rs[k] := ⟨_, rfl⟩
      rw [← hr] at c0 c1 HX hin
      clear hr
      obtain ⟨ra, rb⟩ := r
      simp only at c0 c1 HX hin
      have j1 : (0 : Int) ≤ (ra : Int) := by omega
      have j2 : (ra : Int) ≤ (rb : Int) := by omega
      have j3 : (rb : Int) ≤ (s.length : Int) := by omega
      clear hin
      go_wp2_with fail
      have hne1 : (Value.slice OA k OC).ownBlock ≠ some b := fun e => HN.out _ rfl e
      go_region_law (refine step_append_blk _ rfl (.tmp 18) (.tmp 31) 22 rfl w.heap.size 9 i0 (S []) 16 Tryd.underlying22 hi0 hz0 hz1 hz2 rfl (.slice OA k OC) k ((ts.take k).flatMap strC) (by simp [Act.eval]) (own_up HO.out (by (repeat (first | exact Below.refl _ _ | assumption | refine Below.drew ?_ | refine up_drewN ?_ _ | refine up_alloc ?_ _ | refine up_set ?_ _ _ (by first | exact Nat.le_refl _ | (simp; done) | (simp; omega) | omega) | refine up_trans ?_ (by assumption))))) wr.heap.size (S ((s.take rb).drop ra)) (by simp [Act.eval]) (by simp [go_sem]) rfl (by unfold maxLen; omega) (by omega) (by simp; omega) ?_; intro v9 w9 how hgr hblk; have HO9 := Lib.hid (strs_snoc (by omega) HX.out.symm how); obtain ⟨A9, c9, rfl⟩ := strs_form how; have HB9 := Lib.hid (up_own_grown (show Below w.heap.size w _ by have hQ := HB.out; (repeat (first | exact Below.refl _ _ | assumption | refine Below.drew ?_ | refine up_drewN ?_ _ | refine up_alloc ?_ _ | refine up_set ?_ _ _ (by first | exact Nat.le_refl _ | (simp; done) | (simp; omega) | omega) | refine up_trans ?_ (by assumption)))) (own_up HO.out (show Below wr.heap.size wr _ by (repeat (first | exact Below.refl _ _ | assumption | refine Below.drew ?_ | refine up_drewN ?_ _ | refine up_alloc ?_ _ | refine up_set ?_ _ _ (by first | exact Nat.le_refl _ | (simp; done) | (simp; omega) | omega) | refine up_trans ?_ (by assumption))))) hgr (Nat.le_refl _)); have HR9 := Lib.hid (rd_blk (RdL.up HR.out (show Below wr.heap.size wr _ by (repeat (first | exact Below.refl _ _ | assumption | refine Below.drew ?_ | refine up_drewN ?_ _ | refine up_alloc ?_ _ | refine up_set ?_ _ _ (by first | exact Nat.le_refl _ | (simp; done) | (simp; omega) | omega) | refine up_trans ?_ (by assumption))))) hgr (by intro x hx; injection hx with hx; subst hx; exact hne1)); have HN9 : Hid (∀ x, (some (⟨b, o, none⟩ : Addr)) = some x → (Value.slice A9 (k + 1) c9).ownBlock ≠ some x.block) := Lib.hid (by intro x hx; injection hx with hx; subst hx; exact blk_step hne1 hblk (by simp; omega)); clear how hgr hblk)
      all_goals
        go_wp2_with fail
        go_roundw
        case rel => exact ⟨k + 1, A9, c9, by omega, by go_num, rfl, HO9, Lib.hid (have hQ := HB9.out; by (repeat (first | exact Below.refl _ _ | assumption | refine Below.drew ?_ | refine up_drewN ?_ _ | refine up_alloc ?_ _ | refine up_set ?_ _ _ (by first | exact Nat.le_refl _ | (simp; done) | (simp; omega) | omega) | refine up_trans ?_ (by assumption)))), Lib.hid (HR9.out.up (by (repeat (first | exact Below.refl _ _ | assumption | refine Below.drew ?_ | refine up_drewN ?_ _ | refine up_alloc ?_ _ | refine up_set ?_ _ _ (by first | exact Nat.le_refl _ | (simp; done) | (simp; omega) | omega) | refine up_trans ?_ (by assumption))))), HN9⟩
        case measure => simp [intOf]; omega
    · obtain rfl : k = rs.length := by omega
      have HF := Lib.hid (show ts.take rs.length = ts by rw [← hlen, List.take_length])
      go_wp2_with fail
      go_ret
      exact ⟨_, rfl, by have := HO.out; rwa [HF.out] at this, HB.out⟩

end Go.Proofs.YtcjgllbhmghkeaaDoor
