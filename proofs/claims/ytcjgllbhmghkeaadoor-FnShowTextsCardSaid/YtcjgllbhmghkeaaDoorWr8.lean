/- What is proved here: the contract of the reference's ShowTexts. No condition. -/
import Derived.Test.YtcjgllbhmghkeaaDoorWr7
namespace Go.Proofs.YtcjgllbhmghkeaaDoor
open Go.RowKit
set_option linter.unusedVariables false

/-- the block of a row is the first one or lies far behind. -/
def FarB (v : Value) (a h : Nat) : Prop := ∃ g, v.ownBlock = some g ∧ (g = a ∨ h ≤ g)
theorem FarB.ne {v : Value} {a h b : Nat} (f : FarB v a h) (h1 : a < b) (h2 : b < h) : v.ownBlock ≠ some b := by
  obtain ⟨g, hg, hh⟩ := f
  intro e
  have := hg.symm.trans e
  simp at this
  omega
theorem FarB.step {u v : Value} {a h n : Nat} (f : FarB u a h) (hv : v.ownBlock = u.ownBlock ∨ v.ownBlock = some n) (hn : h ≤ n) : FarB v a h := by
  rcases hv with hv | hv
  · obtain ⟨g, hg, hh⟩ := f
    exact ⟨g, hv.trans hg, hh⟩
  · exact ⟨n, hv, .inr hn⟩
theorem rd_blk1 {w w' : World} {A : Option Addr} {n c : Nat} {xs : List Value} {row : Option Nat} (h : Rd w 1 (.slice A n c) n xs) (hg : w.grownBy w' row) (hne : ∀ x, A = some x → row ≠ some x.block) : Rd w' 1 (.slice A n c) n xs :=
  Rd.grown h hg (by
    rcases A with _ | x
    · exact .inl rfl
    · exact .inr fun e => hne x rfl (e ▸ rfl))

/-- append of one cell; the row's block stays or is new. -/
theorem wpList_append_blk {P : Program} (w : World) {ops : Array Oper} {rest : List Oper} {o : Oper} {a : Act} {Q : Exit → Act → World → Prop} (hgd : o.guard = none) (s x : Operand) (t : TypeId)
    (ho : o.op = .call { callee := .builtin .append, args := #[s, x], argTypes := #[t, t] })
    (base : Nat) (e : TypeId) (i : TypeInfo) (z : Value) (bytes : Nat) (ht : P.underlying t = some (.slice e)) (hi : P.info? e = some i) (hz : i.zero = some z)
    (hsize : i.size = 1) (hby : i.bytes = bytes) (hzs : z.cells.size = 1)
    (v : Value) (n : Nat) (xs : List Value) (hs : a.eval s = v) (hown : w.ownsRow base e 1 v n xs)
    (b : Nat) (u : Value) (hx : a.eval x = .slice (some ⟨b, 0, none⟩) 1 1) (hr : w.cell? ⟨b, 0, none⟩ = some u) (h1 : u.oneCell' = true)
    (h63 : n + 1 ≤ maxLen) (hbytes : (n + 1) * bytes ≤ 140737488355328) (hbase : base ≤ w.heap.size)
    (h : ∀ v' w', w'.ownsRow base e 1 v' (n + 1) (xs ++ [u]) → w.grownBy w' v.ownBlock → (v'.ownBlock = v.ownBlock ∨ v'.ownBlock = some w.heap.size) → wpList P ops Q rest (a.put o.dst v') w') : wpList P ops Q (o :: rest) a w := by
  refine wpList_plain hgd fun K hK => ?_
  obtain ⟨v', w', hrun, h2, h3, _, h4⟩ := run_append_own_at (P := P) w base t o.type e i z 1 bytes ht hi hz hsize hby hzs (by decide) v n xs hown ⟨b, 0, none⟩ 1 1 [u] rfl (by
    rintro (_ | j) y hy
    · simp at hy
      subst hy
      exact hr
    · simp at hy) (by intro y hy; simp at hy; subst hy; exact h1) h63 hbytes hbase
  unfold Oper.wp execOp
  simp only [ho, resolve, invoke, builtin, Sem.run_bind, Sem.run_pure, Result.andThen_ok, List.map_toArray, List.map_cons, List.map_nil, hs, hx, hrun]
  exact hK _ _ (h v' w' h2 h3 h4)

set_option maxRecDepth 100000 in
set_option maxHeartbeats 2000000 in
theorem specShowTexts_any (s : List UInt8) (wd h p : Int) (w : World) (hs : s.length ≤ maxLen) :
    Calls Tryd.prog 6 #[S s, .int .i64 wd, .int .i64 h, .int .i64 p] w (StrsPost (shX s wd h p) w) := by
  unfold StrsPost
  obtain ⟨i0, hi0, hz0, hz1, hz2⟩ := info_parts str_info
  have R := Lib.hid (fun w' => specRowTexts_any s wd w' hs)
  have O := Lib.hid (fun w' => specRowOf_any s wd p w' hs)
  have SR := Lib.hid (fun w' => specShowRow_any 0 h (wtT s wd).length (roN s wd p) w')
  have SW := Lib.hid (fun w' => specShownRows_any (shA s wd h p) (showH 0 h (wtT s wd).length (roN s wd p)) (wtT s wd).length w')
  have HA := shA_in s wd h p
  have HL := shX_len s wd h p
  have HX := Lib.hid (fun j (hj : j < shN s wd h p) => shX_at s wd h p hj)
  have hn : (wtT s wd).length ≤ 121 := by rw [wtT_len]; exact wrR_len s wd
  have eN : shownN (shA s wd h p) (showH 0 h (wtT s wd).length (roN s wd p)) (wtT s wd).length = shN s wd h p := rfl
  have eT : showT 0 h (wtT s wd).length (roN s wd p) = shA s wd h p := rfl
  unfold ShownPost at SW
  unfold StrsPost at R
  rw [eN] at SW
  rw [eT] at SR
  clear eN eT
  generalize shX s wd h p = xs at *
  generalize shN s wd h p = n at *
  generalize shA s wd h p = t at *
  generalize showH 0 h (wtT s wd).length (roN s wd p) = sh at *
  generalize wtT s wd = ts at *
  generalize roN s wd p = r at *
  rw [HL]
  have HE := Lib.hid (own_emptyS w w.heap.size (Nat.le_refl _))
  have HW0 : Hid (Below w.heap.size w (w.alloc (.cells #[] 9))) := Lib.hid (by (repeat (first | exact Below.refl _ _ | assumption | refine Below.drew ?_ | refine up_drewN ?_ _ | refine up_alloc ?_ _ | refine up_set ?_ _ _ (by first | exact Nat.le_refl _ | (simp; done) | (simp; omega) | omega) | refine up_trans ?_ (by assumption))))
  go_enter Tryd.func6, Tryd.ntmps6
  go_wp2_with fail
  refine (R.out _).mono ?_
  rintro e w2 ⟨v2, rfl, ho2, hb2⟩
  have HW2 := Lib.hid (up_trans HW0.out hb2)
  have s2 := HW2.out.size
  have HE2 := Lib.hid (own_up HE.out hb2)
  have HT2 := Lib.hid (RdL.of_own (f := strC) (bs := ts) ho2)
  obtain ⟨A2, c2, rfl, -, -⟩ := HT2.out.form
  have HN2 : Hid (∀ x, A2 = some x → w.heap.size < x.block ∧ x.block < w2.heap.size) := Lib.hid (by
    intro x hx
    subst hx
    have h1 := ho2.lt x.block rfl
    simp at h1
    omega)
  clear hb2 ho2 R HW0 HE
  go_wp2_with fail
  refine (O.out _).mono ?_
  rintro e w3 ⟨rfl, hb3⟩
  have HW3 := Lib.hid (up_trans HW2.out hb3)
  have HE3 := Lib.hid (own_up HE2.out hb3)
  have HT3 := Lib.hid (HT2.out.up hb3)
  have s3 := hb3.size
  clear hb3 HW2 HE2 HT2 O
  go_wp2_with fail
  refine (SR.out _).mono ?_
  rintro e w4 ⟨rfl, hb4⟩
  have HW4 := Lib.hid (up_trans HW3.out hb4)
  have HE4 := Lib.hid (own_up HE3.out hb4)
  have HT4 := Lib.hid (HT3.out.up hb4)
  have s4 := hb4.size
  clear hb4 HW3 HE3 HT3 SR
  go_wp2_with fail
  refine (SW.out _).mono ?_
  rintro e w5 ⟨v5, rfl, ho5, hb5⟩
  have hb5' : Below w4.heap.size w4 w5 := by (repeat (first | exact Below.refl _ _ | assumption | refine Below.drew ?_ | refine up_drewN ?_ _ | refine up_alloc ?_ _ | refine up_set ?_ _ _ (by first | exact Nat.le_refl _ | (simp; done) | (simp; omega) | omega) | refine up_trans ?_ (by assumption)))
  have s5 := hb5'.size
  have HW5 := Lib.hid (up_trans HW4.out hb5')
  have HE5 := Lib.hid (own_up HE4.out hb5')
  have HT5 := Lib.hid (HT4.out.up hb5')
  have HI5 := Lib.hid (Rd.of_own ho5)
  obtain ⟨A5, c5, rfl⟩ := strs_form ho5
  obtain ⟨H3, hH3⟩ : ∃ H3, H3 = w5.heap.size := ⟨_, rfl⟩
  have s0 := HW4.out.size
  have hw2 : w.heap.size ≤ w2.heap.size ∧ w2.heap.size ≤ H3 := by omega
  have HN5 : Hid (∀ x, A5 = some x → w.heap.size < x.block ∧ x.block < H3) := Lib.hid (by
    intro x hx
    subst hx
    have h1 := ho5.lt x.block rfl
    simp at h1
    omega)
  have HN2' : Hid (∀ x, A2 = some x → w.heap.size < x.block ∧ x.block < H3) := Lib.hid (by
    intro x hx
    have h1 := HN2.out x hx
    omega)
  clear hb5 hb5' HW4 HE4 HT4 SW ho5 HN2
  go_wp2_with fail
  go_loopw [9, 13] (fun out i wr => ∃ (k : Nat) (OA : Option Addr) (OC : Nat), k ≤ n ∧ i = .int .i64 k ∧ out = .slice OA k OC ∧ Hid (Own wr w.heap.size 9 1 (.slice OA k OC) k ((xs.take k).flatMap strC)) ∧ Hid (Below w.heap.size w wr) ∧ H3 ≤ wr.heap.size ∧ Hid (FarB (.slice OA k OC) w.heap.size H3) ∧ Hid (RdL wr 1 strC (.slice A2 ts.length c2) ts) ∧ Hid (Rd wr 1 (.slice A5 n c5) n (upInts t n))) (fun _ i _ => n - (intOf i).toNat)
  case atStart => exact ⟨0, _, _, Nat.zero_le _, rfl, rfl, HE5, HW5, by omega, Lib.hid ⟨_, rfl, .inl rfl⟩, HT5, HI5⟩
  case round =>
    obtain ⟨k, OA, OC, hk, rfl, rfl, HO, HB, hH, HF, HT, HI⟩ := hrel
    clear HE5 HW5 HT5 HI5
    by_cases hlt : k < n
    · have i1 : (0 : Int) ≤ (k : Int) := by omega
      have i2 : (k : Int) < (n : Int) := by omega
      obtain ⟨b, o, rfl, hbz, c0⟩ := rd_at HI.out hlt (upInts_at t k n hlt)
      obtain ⟨h1, h2, hx⟩ := HX.out k hlt
      obtain ⟨tn, rfl⟩ : ∃ tn : Nat, t = tn := ⟨t.toNat, by omega⟩
      have hx2 : xs[k] = ts[tn + k]'(by simpa using h1) := by simpa using hx
      have h1' : tn + k < ts.length := by simpa using h1
      obtain ⟨b', o', rfl, hbz', hc'⟩ := HT.out.cells strC_len h1'
      have d0 := hc' 0 _ rfl
      simp only [Nat.mul_one, Nat.add_zero] at d0
      rw [← hx2] at d0
      obtain ⟨x, hxx⟩ : ∃ x, x = xs[k] := ⟨_, rfl⟩
      rw [← hxx] at d0
      have HXX := Lib.hid hxx
      have i3 : (0 : Int) ≤ (tn : Int) + (k : Int) := by omega
      have i4 : (tn : Int) + (k : Int) < (ts.length : Int) := by omega
      have i5 : ((tn : Int) + (k : Int)).toNat = tn + k := by omega
      have hs2 := HB.out.size
      have hne1 := Lib.hid (HF.out.ne (HN5.out _ rfl).1 (HN5.out _ rfl).2)
      have hne2 := Lib.hid (HF.out.ne (HN2'.out _ rfl).1 (HN2'.out _ rfl).2)
      clear hc' hxx hx hx2 h1
      go_wp2_with (at_builtin; go_loud (refine wpList_append_blk _ rfl _ _ 22 rfl w.heap.size 9 i0 (S []) 16 Tryd.underlying22 hi0 hz0 hz1 hz2 rfl (.slice OA k OC) k ((xs.take k).flatMap strC) rfl (own_up HO.out (by (repeat (first | exact Below.refl _ _ | assumption | refine Below.drew ?_ | refine up_drewN ?_ _ | refine up_alloc ?_ _ | refine up_set ?_ _ _ (by first | exact Nat.le_refl _ | (simp; done) | (simp; omega) | omega) | refine up_trans ?_ (by assumption))))) wr.heap.size (S x) rfl (by simp [go_sem]) rfl (by unfold maxLen; omega) (by omega) (by simp; omega) ?_; intro v9 w9 how hgr hblk; have HO9 := Lib.hid (strs_snoc h2 HXX.out how); obtain ⟨A9, c9, rfl⟩ := strs_form how; have HB9 := Lib.hid (up_own_grown (show Below w.heap.size w _ by have hQ := HB.out; (repeat (first | exact Below.refl _ _ | assumption | refine Below.drew ?_ | refine up_drewN ?_ _ | refine up_alloc ?_ _ | refine up_set ?_ _ _ (by first | exact Nat.le_refl _ | (simp; done) | (simp; omega) | omega) | refine up_trans ?_ (by assumption)))) (own_up HO.out (show Below wr.heap.size wr _ by (repeat (first | exact Below.refl _ _ | assumption | refine Below.drew ?_ | refine up_drewN ?_ _ | refine up_alloc ?_ _ | refine up_set ?_ _ _ (by first | exact Nat.le_refl _ | (simp; done) | (simp; omega) | omega) | refine up_trans ?_ (by assumption))))) hgr (Nat.le_refl _)); have HR9 := Lib.hid (rd_blk (RdL.up HT.out (show Below wr.heap.size wr _ by (repeat (first | exact Below.refl _ _ | assumption | refine Below.drew ?_ | refine up_drewN ?_ _ | refine up_alloc ?_ _ | refine up_set ?_ _ _ (by first | exact Nat.le_refl _ | (simp; done) | (simp; omega) | omega) | refine up_trans ?_ (by assumption))))) hgr (by intro x hx; injection hx with hx; subst hx; exact hne2.out)); have HI9 := Lib.hid (rd_blk1 (Rd.up HI.out (show Below wr.heap.size wr _ by (repeat (first | exact Below.refl _ _ | assumption | refine Below.drew ?_ | refine up_drewN ?_ _ | refine up_alloc ?_ _ | refine up_set ?_ _ _ (by first | exact Nat.le_refl _ | (simp; done) | (simp; omega) | omega) | refine up_trans ?_ (by assumption))))) hgr (by intro x hx; injection hx with hx; subst hx; exact hne1.out)); have HF9 := Lib.hid (HF.out.step hblk (by simp; omega)); have hs9 : wr.heap.size ≤ w9.heap.size := (by have := hgr.size; simp at this; omega); clear how hgr hblk))
      go_roundw
      case rel => exact ⟨k + 1, A9, c9, by omega, by go_num, rfl, HO9, Lib.hid (have hQ := HB9.out; by (repeat (first | exact Below.refl _ _ | assumption | refine Below.drew ?_ | refine up_drewN ?_ _ | refine up_alloc ?_ _ | refine up_set ?_ _ _ (by first | exact Nat.le_refl _ | (simp; done) | (simp; omega) | omega) | refine up_trans ?_ (by assumption)))), by omega, HF9, Lib.hid (HR9.out.up (by (repeat (first | exact Below.refl _ _ | assumption | refine Below.drew ?_ | refine up_drewN ?_ _ | refine up_alloc ?_ _ | refine up_set ?_ _ _ (by first | exact Nat.le_refl _ | (simp; done) | (simp; omega) | omega) | refine up_trans ?_ (by assumption))))), Lib.hid (HI9.out.up (by (repeat (first | exact Below.refl _ _ | assumption | refine Below.drew ?_ | refine up_drewN ?_ _ | refine up_alloc ?_ _ | refine up_set ?_ _ _ (by first | exact Nat.le_refl _ | (simp; done) | (simp; omega) | omega) | refine up_trans ?_ (by assumption)))))⟩
      case measure => simp [intOf]; omega
    · obtain rfl : k = n := by omega
      have HF := Lib.hid (show xs.take k = xs by rw [← HL, List.take_length])
      go_wp2_with fail
      go_ret
      exact ⟨_, rfl, by have := HO.out; rwa [HF.out] at this, HB.out⟩

end Go.Proofs.YtcjgllbhmghkeaaDoor
