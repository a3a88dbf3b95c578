/- What is proved here: the contract of DrawTableChange. No condition but that the code is a slice of bytes. -/
import Derived.Test.YtlejfmngpbcdhaaL20T
import Derived.Test.YtlejfmngpbcdhaaBoxC
namespace Go.Proofs.Ytlejfmngpbcdhaa
open Go.RowKit
set_option linter.unusedVariables false

theorem MR.below {g n p C k : Nat} {zs : List Int} {w w' : World} (h : MR g n zs p C k w) (hb : Below w.heap.size w w') : MR g n zs p C k w' := by
  obtain ⟨x, hx, hr⟩ := h
  exact ⟨x, hx, hr.up hb⟩
/-- the result's box is empty, or holds the table. -/
def HBT (r : Nat) (f m : List UInt8) (v : Value) (w : World) : Prop := ∃ f' m' v', Is w r #[S f', S m', v'] ∧ ((f' = [] ∧ m' = [] ∧ v' = .slice none 0 0) ∨ (f' = f ∧ m' = m ∧ v' = v))
theorem HBT.same {r : Nat} {f m : List UInt8} {v : Value} {w w' : World} (h : HBT r f m v w) (hb : w'.heap[r]? = w.heap[r]?) : HBT r f m v w' := by
  obtain ⟨f', m', v', h, hh⟩ := h
  exact ⟨f', m', v', h.of_block hb, hh⟩
theorem hbt_put {r g n q : Nat} {zs : List Int} {f m f' m' : List UInt8} {A : Option Addr} {k c : Nat} {v v' : Value} {w : World} (h : Is w r #[S f', S m', v']) (hv : (f' = [] ∧ m' = [] ∧ v' = .slice none 0 0) ∨ (f' = f ∧ m' = m ∧ v' = .slice A k c)) (hr : Rdr w g n zs q) (hrg : r ≠ g) :
    Rdr (((w.setCell ⟨r, 0, none⟩ (S f)).setCell ⟨r, 1, none⟩ (S m)).setCell ⟨r, 2, none⟩ v) g n zs q ∧ HBT r f m v (((w.setCell ⟨r, 0, none⟩ (S f)).setCell ⟨r, 1, none⟩ (S m)).setCell ⟨r, 2, none⟩ v) :=
  ⟨rdr_far hr h (fun o x hx z => by
      match o, hx with
      | 0, hx => simp at hx; subst hx; simp
      | 1, hx => simp at hx; subst hx; simp
      | 2, hx => simp at hx; subst hx; rcases hv with ⟨_, _, rfl⟩ | ⟨_, _, rfl⟩ <;> simp
      | o + 3, hx => simp at hx) hrg (fun i hi => ((Below.heap_setCell _ ⟨r, 2, none⟩ _ i hi).trans (Below.heap_setCell _ ⟨r, 1, none⟩ _ i hi)).trans (Below.heap_setCell w ⟨r, 0, none⟩ _ i hi)),
    _, _, _, put_is (V := #[S f, S m, v]) h rfl, .inr ⟨rfl, rfl, rfl⟩⟩

/-- a call that draws a table and a change. -/
def DtcPost (w : World) (e : Ending) (w' : World) : Prop := ∃ f m ps u qa qc t, e = .returned (.tuple #[tbAgg f m u, .agg #[.int .i64 qa, .int .i64 qc, S t]]) ∧ SmallT f m ps ∧ t.length ≤ 260 ∧ RdP w' u ps ∧ Below w.heap.size w w'
set_option maxRecDepth 100000 in
set_option maxHeartbeats 2000000 in
theorem drawTableChange_any (v : Value) (n : Nat) (zs : List Int) (w : World) (h : Bytes w w.heap.size v n zs) :
    Calls Try.prog 27 #[v] w (DtcPost w) := by
  unfold DtcPost tbAgg
  go_enter Try.func27, Try.ntmps27
  go_wp2_with fail
  refine (open_any v n zs _ (h.to (by (repeat (first | exact Below.refl _ _ | assumption | refine Below.drew ?_ | refine up_drewN ?_ _ | refine up_alloc ?_ _ | refine up_set ?_ _ _ (by first | exact Nat.le_refl _ | (simp; done) | (simp; omega) | omega) | refine up_trans ?_ (by assumption)))))).mono ?_
  rintro e w1 ⟨g, n1, ys, rfl, hr, hb, hg⟩
  have rc : ∀ o, w1.cell? ⟨w.heap.size, o, none⟩ = #[S [], S [], .slice none 0 0][o]? := (fun o => (hb.cell (p := ⟨w.heap.size, o, none⟩) (by simp <;> omega)).trans (by simp [go_sem])); have rf : ∀ o, w1.frozen? ⟨w.heap.size, o, none⟩ = false := (fun o => (hb.frozen (p := ⟨w.heap.size, o, none⟩) (by simp <;> omega)).trans (by simp [go_sem])); have rz : w.heap.size < w1.heap.size := (by have := hb.size; (try simp at this); omega); have ry := rz
  have kc : ∀ o, w1.cell? ⟨w.heap.size + 1, o, none⟩ = #[.int .i64 0, .int .i64 0, S []][o]? := (fun o => (hb.cell (p := ⟨w.heap.size + 1, o, none⟩) (by simp <;> omega)).trans (by simp [go_sem])); have kf : ∀ o, w1.frozen? ⟨w.heap.size + 1, o, none⟩ = false := (fun o => (hb.frozen (p := ⟨w.heap.size + 1, o, none⟩) (by simp <;> omega)).trans (by simp [go_sem])); have kz : w.heap.size + 1 < w1.heap.size := (by have := hb.size; (try simp at this); omega); have ky := kz
  have hW : Below w.heap.size w w1 := by (repeat (first | exact Below.refl _ _ | assumption | refine Below.drew ?_ | refine up_drewN ?_ _ | refine up_alloc ?_ _ | refine up_set ?_ _ _ (by first | exact Nat.le_refl _ | (simp; done) | (simp; omega) | omega) | refine up_trans ?_ (by assumption)))
  have hg2 : w.heap.size + 1 < g := by simp at hg; omega
  have hgz := hr.lt
  clear hb h hg
  go_wp2_with fail
  refine (l20Table_any g n1 ys 0 14 _ hr (by omega)).mono ?_
  rintro e w2 ⟨f, m, ps, u, rfl, hf, hm, hl, ho, ⟨q, hq, hr2⟩, hb⟩
  unfold tbAgg
  have rc2 := gup_c hb rz (by omega) rc
  have rf2 := gup_f hb rz (by omega) rf
  have kc2 := gup_c hb kz (by omega) kc
  have kf2 := gup_f hb kz (by omega) kf
  have sw2 := hb.size
  have hW2 := (show Below w.heap.size w w2 from ⟨hb.os.trans hW.os, hb.tape.trans hW.tape, hb.output.trans hW.output, Nat.le_trans hW.size hb.size, fun i hi => (hb.block i (Nat.lt_of_lt_of_le hi hW.size) (by simp; omega)).trans (hW.block i hi)⟩)
  obtain ⟨A, c, rfl, -, -⟩ := (RdL.of_own (f := pcC) (bs := ps) ho).form
  go_upto_region 3 with (fail)
  obtain ⟨W0, hw⟩ : ∃ z, z = w2.alloc (.cells #[S f, S m, .slice A ps.length c] 48) := ⟨_, rfl⟩
  rw [← hw]
  have hB : Below w2.heap.size w2 W0 := by rw [hw]; exact up_alloc (Below.refl _ _) _
  have hI : Is W0 w2.heap.size #[S f, S m, .slice A ps.length c] := by rw [hw]; exact new_is w2 _ _
  have xc := hI.1
  have xz : w2.heap.size < W0.heap.size := by rw [hw]; simp
  have rI : Is W0 w.heap.size #[S [], S [], .slice none 0 0] := Is.up ⟨rc2, rf2⟩ (by omega) hB
  have kI : Is W0 (w.heap.size + 1) #[.int .i64 0, .int .i64 0, S []] := Is.up ⟨kc2, kf2⟩ (by omega) hB
  have hr3 := hr2.up hB
  have HO := Lib.hid (own_up ho hB)
  have HW := Lib.hid (up_trans hW2 hB)
  have hgB : g < W0.heap.size := by omega
  have hrB : w.heap.size < W0.heap.size := by omega
  have hkB : w.heap.size + 1 < W0.heap.size := by omega
  have MM : MR g n1 ys q 60 0 W0.drew ∧ HBT w.heap.size f m (.slice A ps.length c) W0.drew ∧ CB (w.heap.size + 1) W0.drew := ⟨MR.drew ⟨q, by omega, hr3⟩, ⟨[], [], _, rI, .inl ⟨rfl, rfl, rfl⟩⟩, 0, 0, [], by simp, kI⟩
  have hxg : w2.heap.size ≠ g := by omega
  have hxr : w2.heap.size ≠ w.heap.size := by omega
  have hg1 : w1.heap.size > g := hgz
  clear hb ho rc rf kc kf hW hr hr2 hr3 rc2 rf2 kc2 kf2 hW2 hw hB hI rI kI
  --EVER{spec.DrawTableChange;3;dtc3}
  refine wp_region_ever (R := RS [g, w.heap.size, w.heap.size + 1]) (M := fun k w' => MR g n1 ys q 60 k w' ∧ HBT w.heap.size f m (.slice A ps.length c) w' ∧ CB (w.heap.size + 1) w') [tEq _ (.agg #[S f, S m, .slice A ps.length c]), tEq _ (.pointer (some ⟨g, 0, none⟩)), tEq _ (.agg #[S f, S m, .slice A ps.length c]), tOf _ (isS 120), tOf _ isCg, tyAny _, tyAny _] (by kernel_rfl) (RS.refl _) (fun _ _ _ => RS.trans) (by kernel_rfl) (MM) ?_ ?_
  · refine ⟨?_, ?_, ?_, ?_, ?_, ?_, ?_, trivial⟩
    · intro k' w' ρ hk' hR hM hF
      replace hk' : k' < 7 := hk'
      obtain ⟨f0, -⟩ := hF
      replace f0 : ρ (.tmp 5) = .pointer (some ⟨w2.heap.size, 0, none⟩) := f0
      refine good_of fun K hK => ?_
      have z0 := (hR.of_drew.cell xz (by simp; omega) 0).trans (xc 0); have z1 := (hR.of_drew.cell xz (by simp; omega) 1).trans (xc 1); have z2 := (hR.of_drew.cell xz (by simp; omega) 2).trans (xc 2); go_simp; exact hK _ _ (RS.refl _ _) (⟨hM.1.next, hM.2⟩) rfl
    · intro k' w' ρ hk' hR hM hF
      replace hk' : k' < 7 := hk'
      obtain ⟨f0, -⟩ := hF
      replace f0 : ρ (.tmp 4) = .pointer (some ⟨g, 0, none⟩) := f0
      exact ⟨RS.refl _ _, ⟨hM.1.next, hM.2⟩, f0⟩
    · intro k' w' ρ hk' hR hM hF
      replace hk' : k' < 7 := hk'
      obtain ⟨f0, -⟩ := hF
      replace f0 : ρ (.tmp 5) = .pointer (some ⟨w2.heap.size, 0, none⟩) := f0
      refine good_of fun K hK => ?_
      have z0 := (hR.of_drew.cell xz (by simp; omega) 0).trans (xc 0); have z1 := (hR.of_drew.cell xz (by simp; omega) 1).trans (xc 1); have z2 := (hR.of_drew.cell xz (by simp; omega) 2).trans (xc 2); go_simp; exact hK _ _ (RS.refl _ _) (⟨hM.1.next, hM.2⟩) rfl
    · intro k' w' ρ hk' hR hM hF
      replace hk' : k' < 7 := hk'
      obtain ⟨f0, f1, -⟩ := hF
      replace f0 : ρ (.func _) = .func (.func _) #[] #[] := f0
      replace f1 : ρ (.tmp 12) = .agg #[S f, S m, .slice A ps.length c] := f1
      refine good_of fun K hK => ?_
      have HM := Lib.hid hM; clear hM; have Q := Lib.hid (RdL.of_own (f := pcC) (bs := ps) (rs_ownT hR.of_drew HO.out (fun x hx => by have := HO.out.lt x hx; simp; omega))); go_simp; refine (specTableText_any f m _ ps _ Q.out (by omega) (by omega)).mono ?_; rintro e wc ⟨rfl, hb⟩; exact ⟨_, rfl, hK _ _ ((RS.refl _ _).below hb) ⟨(MR.below HM.out.1 hb).next, HM.out.2.1.same (hb.block _ (Nat.lt_of_lt_of_le hrB hR.size)), HM.out.2.2.same (hb.block _ (Nat.lt_of_lt_of_le hkB hR.size))⟩ ⟨_, rfl, tbX_len f m ps⟩⟩
    · intro k' w' ρ hk' hR hM hF
      replace hk' : k' < 7 := hk'
      obtain ⟨f0, f1, f2, f3, -⟩ := hF
      replace f0 : ρ (.func _) = .func (.func _) #[] #[] := f0
      replace f1 : ρ (.tmp 11) = .pointer (some ⟨g, 0, none⟩) := f1
      replace f3 : ρ (.const (.int .i64 9)) = .int .i64 9 := f3
      refine good_of fun K hK => ?_
      obtain ⟨s, f2, hs⟩ := f2; replace f2 : ρ (.tmp 13) = S s := f2; obtain ⟨⟨q', hq', hr'⟩, hH, hC⟩ := hM; have HR := Lib.hid hr'; clear hr'; go_simp; refine (l20Change_any g n1 ys q' 9 s _ HR.out (by omega) (by omega)).mono ?_; rintro e wc ⟨qa, qc, ct, rfl, hct, ⟨q2, hq2, hr2⟩, hb⟩; exact ⟨_, rfl, hK _ _ ((RS.refl _ _).grown hb (by intro g' h; injection h with h; subst h; exact .inl (by simp))) ⟨⟨q2, by rw [Nat.mul_add]; omega, hr2⟩, hH.same (hb.block _ (Nat.lt_of_lt_of_le hrB hR.size) (by simp; omega)), hC.same (hb.block _ (Nat.lt_of_lt_of_le hkB hR.size) (by simp; omega))⟩ ⟨qa, qc, ct, rfl, hct⟩⟩
    · intro k' w' ρ hk' hR hM hF
      replace hk' : k' < 7 := hk'
      obtain ⟨f0, f1, -⟩ := hF
      replace f0 : ρ (.tmp 2) = .pointer (some ⟨w.heap.size, 0, none⟩) := f0
      replace f1 : ρ (.tmp 10) = .agg #[S f, S m, .slice A ps.length c] := f1
      refine good_of fun K hK => ?_
      obtain ⟨⟨q', hq', hr'⟩, hH, hC⟩ := hM; obtain ⟨f', m', v', hI, hv'⟩ := hH; have e0 := hI.1 0; have e1 := hI.1 1; have e2 := hI.1 2; simp only [List.getElem?_toArray, List.getElem?_cons_zero, List.getElem?_cons_succ] at e0 e1 e2; have qf := hI.2; have HM := Lib.hid (hbt_put (f := f) (m := m) (v := .slice A ps.length c) hI hv' hr' (by omega)); clear hr' hI hv'; go_simp; exact hK _ _ ((((RS.refl _ _).set _ _ (by simp)).set _ _ (by simp)).set _ _ (by simp)) ⟨⟨q', by rw [Nat.mul_add]; omega, HM.out.1⟩, HM.out.2, hC.same (((Below.heap_setCell _ ⟨w.heap.size, 2, none⟩ _ _ (by simp)).trans (Below.heap_setCell _ ⟨w.heap.size, 1, none⟩ _ _ (by simp))).trans (Below.heap_setCell _ ⟨w.heap.size, 0, none⟩ _ _ (by simp)))⟩ trivial
    · intro k' w' ρ hk' hR hM hF
      replace hk' : k' < 7 := hk'
      obtain ⟨f0, f1, -⟩ := hF
      replace f0 : ρ (.tmp 3) = .pointer (some ⟨w.heap.size + 1, 0, none⟩) := f0
      refine good_of fun K hK => ?_
      obtain ⟨qa, qc, ct, f1, hct⟩ := f1; replace f1 : ρ (.tmp 14) = .agg #[.int .i64 qa, .int .i64 qc, S ct] := f1; obtain ⟨⟨q', hq', hr'⟩, hH, ⟨ra, rc, rt, -, hI⟩⟩ := hM; have e0 := hI.1 0; have e1 := hI.1 1; have e2 := hI.1 2; simp only [List.getElem?_toArray, List.getElem?_cons_zero, List.getElem?_cons_succ] at e0 e1 e2; have qf := hI.2; have HM := Lib.hid (cb_put (qa := qa) (qc := qc) (t := ct) hI hct hr' (by omega)); clear hr' hI; go_simp; exact hK _ _ ((((RS.refl _ _).set _ _ (by simp)).set _ _ (by simp)).set _ _ (by simp)) ⟨⟨q', by rw [Nat.mul_add]; omega, HM.out.1⟩, hH.same (((Below.heap_setCell _ ⟨w.heap.size + 1, 2, none⟩ _ _ (by simp)).trans (Below.heap_setCell _ ⟨w.heap.size + 1, 1, none⟩ _ _ (by simp))).trans (Below.heap_setCell _ ⟨w.heap.size + 1, 0, none⟩ _ _ (by simp))), HM.out.2⟩ trivial
  · intro w' hR hM
    rintro _ rfl
    rintro _ rfl
    rintro _ rfl
    rintro _ ⟨v3, rfl, hi3⟩
    rintro _ ⟨_, _, _, rfl, -⟩
    rintro _ -
    rintro _ -
  --END
  --END
    dsimp only [EndAll, Act.put]
    obtain ⟨w4, rfl⟩ : ∃ z, z = w' := ⟨_, rfl⟩
    have hB := hR.of_drew
    obtain ⟨f', m', v', hI, hh⟩ := hM.2.1
    obtain ⟨qa, qc, t, ht, hK⟩ := hM.2.2
    have kc := hK.1
    have HR := Lib.hid (RdL.of_own (f := pcC) (bs := ps) (rs_ownT hB HO.out (fun x hx => by have := HO.out.lt x hx; simp; omega)))
    have HB4 := Lib.hid (show Below w.heap.size w w4 from ⟨hB.os.trans HW.out.os, hB.tape.trans HW.out.tape, hB.output.trans HW.out.output, Nat.le_trans HW.out.size hB.size, fun i hi => (hB.block i (Nat.lt_of_lt_of_le hi HW.out.size) (by simp; omega)).trans (HW.out.block i hi)⟩)
    have rc := hI.1
    clear hR hM MM hI hK hB HO HW xc
    go_wp2_with fail
    rcases hh with ⟨rfl, rfl, rfl⟩ | ⟨rfl, rfl, rfl⟩
    · refine bodyPost_ret (v := .tuple #[.agg #[S [], S [], .slice none 0 0], .agg #[.int .i64 qa, .int .i64 qc, S t]]) (by simp [results, Try.results27, go_sem, rc, kc]) rfl ⟨[], [], [], _, qa, qc, t, rfl, ⟨by simp, by simp, by simp⟩, ht, RdL.of_own (e := 79) (base := 0) (World.ownsRow_nil _ _ _ _), HB4.out⟩
    · refine bodyPost_ret (v := .tuple #[.agg #[S f', S m', .slice A ps.length c], .agg #[.int .i64 qa, .int .i64 qc, S t]]) (by simp [results, Try.results27, go_sem, rc, kc]) rfl ⟨f', m', ps, _, qa, qc, t, rfl, ⟨by omega, by omega, by omega⟩, ht, HR.out, HB4.out⟩

end Go.Proofs.Ytlejfmngpbcdhaa
