/- What is proved here: the walk of the law FnExactEditorAfresh. Condition: what the library's variables hold. -/
import Derived.Test.YtbjlkdenkmbepaaGreatDoorEdA
import Derived.Test.YtbjlkdenkmbepaaGreatDoorEd1
import Derived.Test.YtbjlkdenkmbepaaGreatDoorArgE
import Derived.Test.YtbjlkdenkmbepaaGreatDoorEver2
namespace Go.Proofs.YtbjlkdenkmbepaaGreatDoor
open Go.RowKit
set_option linter.unusedVariables false

theorem rdM0_of2 {w : World} {base : Nat} {v : Value} {ms : List Mo} (h : OwnM w base v ms) (hs : SmallM ms) : RdM w v ms := ⟨RdL.of_own h, hs.2⟩
/-- an editor as a value whose states can be read. -/
def tEdR (s : List UInt8) (x : Int) (cl : List UInt8) (ms : List Mo) (pa : Int) : Ty (RS []) := ⟨fun v w => ∃ u, v = edAgg s x cl u pa ∧ RdL w 7 moC u ms, fun _ _ _ hR ⟨u, hv, h⟩ => ⟨u, hv, h.up hR.to_below⟩⟩

theorem ea_both (ms : List Mo) (pa : Int) (s : List UInt8) (x : Int) (cl : List UInt8) (hs : s.length ≤ maxLen) (hc : cl.length ≤ maxLen) : ∃ (t : List UInt8) (n : Int),
    (∀ v w, RdM w v ms → ms.length ≤ 1048576 → LW w → Calls Tryz.prog 35 #[edAgg s x cl v pa] w fun e w' => e = .returned (.tuple #[S t, .int .i64 n]) ∧ Below w.heap.size w w') ∧
    (∀ v w, RdM w v ms → ms.length ≤ 1048576 → Calls Tryz.prog 34 #[edAgg s x cl v pa] w fun e w' => e = .returned (.tuple #[S t, .int .i64 n]) ∧ Below w.heap.size w w') := by
  by_cases hg : EdOk ms pa s x cl
  · exact ⟨s, _, fun v w h _ hL => implEditorAfresh_yes v ms pa s x cl w h hg hL, fun v w h _ => specEditorAfresh_yes v ms pa s x cl w h hg⟩
  · exact ⟨[], -1, fun v w h hn _ => implEditorAfresh_no v ms pa s x cl w h hn hs hc hg, fun v w h hn => specEditorAfresh_no v ms pa s x cl w h hn hs hc hg⟩

set_option maxRecDepth 100000 in
set_option maxHeartbeats 2000000 in
theorem exactEditorAfresh_walk (v : Value) (E : EdS) (w : World) (h : RdE w v E) (hL : LW w) :
    Calls Tryz.prog 7 #[v] w fun e w' => e = .returned (.bool true) ∧ Below w.heap.size w w' := by
  have hW := Below.refl w.heap.size w
  obtain ⟨s, x, cl, pa, ms⟩ := E
  obtain ⟨u0, rfl, h0, hs, hc⟩ := h
  simp only at h0 hs hc ⊢
  obtain ⟨A, c, rfl, hm, _⟩ := h0.1.form
  have H0 := Lib.hid h0
  have Z := Lib.hid (fun (w' : World) (hb : Below w.heap.size w w') => szEditor_any (.slice A ms.length c) ms pa s x cl w' (h0.up hb) hs hc)
  have T := Lib.hid (fun (w' : World) (hb : Below w.heap.size w w') => toEditor_any (.slice A ms.length c) ms pa s x cl w' (h0.up hb))
  have HL := Lib.hid hL
  obtain ⟨t, n, fI, fQ⟩ := ea_both ms pa s x cl hs hc
  have I := Lib.hid fI
  have Q := Lib.hid fQ
  have X := Lib.hid (fun (u v : Value) (w' : World) (hu : RdL w' 7 moC u ms) (hv : RdL w' 7 moC v ms) => eqEditor_same u v ms pa s x cl w' hu hv)
  unfold ToEPost at T
  unfold edAgg at Z T I Q X ⊢
  clear h0 fI fQ hL
  go_enter Tryz.func7, Tryz.ntmps7
  go_wp2_with fail
  refine (Z.out _ (by (repeat (first | exact Below.refl _ _ | assumption | refine Below.drew ?_ | refine up_drewN ?_ _ | refine up_alloc ?_ _ | refine up_set ?_ _ _ (by first | exact Nat.le_refl _ | (simp; done) | (simp; omega) | omega) | refine up_trans ?_ (by assumption))))).mono ?_
  rintro e w1 ⟨r, rfl, hr1, hr2, hb⟩
  have hc : ∀ o, w1.cell? ⟨w.heap.size, o, none⟩ = #[S s, .int .i64 x, S cl, .slice A ms.length c, .int .i64 pa][o]? := (fun o => (hb.cell (p := ⟨w.heap.size, o, none⟩) (by simp <;> omega)).trans (by simp [go_sem])); have hf : ∀ o, w1.frozen? ⟨w.heap.size, o, none⟩ = false := (fun o => (hb.frozen (p := ⟨w.heap.size, o, none⟩) (by simp <;> omega)).trans (by simp [go_sem])); have hz : w.heap.size < w1.heap.size := (by have := hb.size; (try simp at this); omega); have hy := hz
  have hB : Below w.heap.size w w1 := (by (repeat (first | exact Below.refl _ _ | assumption | refine Below.drew ?_ | refine up_drewN ?_ _ | refine up_alloc ?_ _ | refine up_set ?_ _ _ (by first | exact Nat.le_refl _ | (simp; done) | (simp; omega) | omega) | refine up_trans ?_ (by assumption)))); have sw1 := hB.size; replace hW := up_trans hW hB; clear hB
  clear hb
  by_cases hr0 : r < 0
  · clear hr2
    go_wp2_with fail
    go_ret
    exact ⟨rfl, hW⟩
  have hsm := (hr2 (by omega)).1
  have hs1 := hsm.1
  have HS := Lib.hid hsm
  clear hr2 hsm Z
  go_wp2_with fail
  refine (T.out _ hW hs1).mono ?_
  rintro e w2 ⟨y1, rfl, hy1, hb⟩
  have R1 := Lib.hid (rdM0_of2 hy1 HS.out)
  obtain ⟨YA, YC, rfl, -, -⟩ := (RdL.of_own (f := moC) (bs := ms) hy1).form
  have hB : Below w1.heap.size w1 w2 := (by (repeat (first | exact Below.refl _ _ | assumption | refine Below.drew ?_ | refine up_drewN ?_ _ | refine up_alloc ?_ _ | refine up_set ?_ _ _ (by first | exact Nat.le_refl _ | (simp; done) | (simp; omega) | omega) | refine up_trans ?_ (by assumption)))); replace hc := up_c hB hz hc; replace hf := up_f hB hz hf; replace hz := Nat.lt_of_lt_of_le hz hB.size; have sw2 := hB.size; replace hW := up_trans hW hB; clear hB
  clear hb hy1
  go_wp2_with fail
  refine (Q.out _ _ R1.out hs1).mono ?_
  rintro e w3 ⟨rfl, hb⟩
  have hB : Below w2.heap.size w2 w3 := (by (repeat (first | exact Below.refl _ _ | assumption | refine Below.drew ?_ | refine up_drewN ?_ _ | refine up_alloc ?_ _ | refine up_set ?_ _ _ (by first | exact Nat.le_refl _ | (simp; done) | (simp; omega) | omega) | refine up_trans ?_ (by assumption)))); replace hc := up_c hB hz hc; replace hf := up_f hB hz hf; replace hz := Nat.lt_of_lt_of_le hz hB.size; have sw3 := hB.size; replace hW := up_trans hW hB; clear hB
  clear hb R1
  go_wp2_with fail
  refine (T.out _ hW hs1).mono ?_
  rintro e w4 ⟨x0, rfl, hx0, hb⟩
  have hB : Below w3.heap.size w3 w4 := (by (repeat (first | exact Below.refl _ _ | assumption | refine Below.drew ?_ | refine up_drewN ?_ _ | refine up_alloc ?_ _ | refine up_set ?_ _ _ (by first | exact Nat.le_refl _ | (simp; done) | (simp; omega) | omega) | refine up_trans ?_ (by assumption)))); replace hc := up_c hB hz hc; replace hf := up_f hB hz hf; replace hz := Nat.lt_of_lt_of_le hz hB.size; have sw4 := hB.size; replace hW := up_trans hW hB; clear hB
  obtain ⟨XA, XC, rfl, -, -⟩ := (RdL.of_own (f := moC) (bs := ms) hx0).form
  have R2 := Lib.hid (rdM0_of2 hx0 HS.out)
  have HX0 := Lib.hid (RdL.of_own (f := moC) (bs := ms) hx0)
  clear hb hx0
  go_wp2_with fail
  refine (I.out _ _ (R2.out.up (by (repeat (first | exact Below.refl _ _ | assumption | refine Below.drew ?_ | refine up_drewN ?_ _ | refine up_alloc ?_ _ | refine up_set ?_ _ _ (by first | exact Nat.le_refl _ | (simp; done) | (simp; omega) | omega) | refine up_trans ?_ (by assumption))))) hs1 (HL.out.up (by (repeat (first | exact Below.refl _ _ | assumption | refine Below.drew ?_ | refine up_drewN ?_ _ | refine up_alloc ?_ _ | refine up_set ?_ _ _ (by first | exact Nat.le_refl _ | (simp; done) | (simp; omega) | omega) | refine up_trans ?_ (by assumption)))))).mono ?_
  rintro e w5 ⟨rfl, hb⟩
  have xc : ∀ o, w5.cell? ⟨w4.heap.size, o, none⟩ = #[S s, .int .i64 x, S cl, .slice XA ms.length XC, .int .i64 pa][o]? := (fun o => (hb.cell (p := ⟨w4.heap.size, o, none⟩) (by simp <;> omega)).trans (by simp [go_sem])); have xf : ∀ o, w5.frozen? ⟨w4.heap.size, o, none⟩ = false := (fun o => (hb.frozen (p := ⟨w4.heap.size, o, none⟩) (by simp <;> omega)).trans (by simp [go_sem])); have xz : w4.heap.size < w5.heap.size := (by have := hb.size; (try simp at this); omega); have xy := xz
  have HX5 := Lib.hid (HX0.out.up (show Below w4.heap.size w4 w5 by (repeat (first | exact Below.refl _ _ | assumption | refine Below.drew ?_ | refine up_drewN ?_ _ | refine up_alloc ?_ _ | refine up_set ?_ _ _ (by first | exact Nat.le_refl _ | (simp; done) | (simp; omega) | omega) | refine up_trans ?_ (by assumption)))))
  have hB : Below w4.heap.size w4 w5 := (by (repeat (first | exact Below.refl _ _ | assumption | refine Below.drew ?_ | refine up_drewN ?_ _ | refine up_alloc ?_ _ | refine up_set ?_ _ _ (by first | exact Nat.le_refl _ | (simp; done) | (simp; omega) | omega) | refine up_trans ?_ (by assumption)))); replace hc := up_c hB hz hc; replace hf := up_f hB hz hf; replace hz := Nat.lt_of_lt_of_le hz hB.size; have sw5 := hB.size; replace hW := up_trans hW hB; clear hB
  have HW := Lib.hid hW
  clear hb hW HX0 R2
  go_upto_region 10 with (fail)
  --EVER{laws.FnExactEditorAfresh;10;xeAfresh}
  refine wp_region_ever (R := RS []) (M := fun _ _ => True) [tEq _ (.agg #[S s, .int .i64 x, S cl, .slice XA ms.length XC, .int .i64 pa]), tEq _ (.agg #[S s, .int .i64 x, S cl, .slice A ms.length c, .int .i64 pa]), tEdR s x cl ms pa, tEq _ (.bool true), tEq _ (.bool false)] (by kernel_rfl) (RS.refl _) (fun _ _ _ => RS.trans) (by kernel_rfl) (trivial) ?_ ?_
  · refine ⟨?_, ?_, ?_, ?_, ?_, trivial⟩
    · intro k' w' ρ hk' hR hM hF
      replace hk' : k' < 5 := hk'
      obtain ⟨f0, -⟩ := hF
      replace f0 : ρ (.tmp 6) = .pointer (some ⟨w4.heap.size, 0, none⟩) := f0
      refine good_of fun K hK => ?_
      have z0 := (hR.of_drew.cell xz (by simp) 0).trans (xc 0); have z1 := (hR.of_drew.cell xz (by simp) 1).trans (xc 1); have z2 := (hR.of_drew.cell xz (by simp) 2).trans (xc 2); have z3 := (hR.of_drew.cell xz (by simp) 3).trans (xc 3); have z4 := (hR.of_drew.cell xz (by simp) 4).trans (xc 4); go_simp; exact hK _ _ (RS.refl _ _) (trivial) rfl
    · intro k' w' ρ hk' hR hM hF
      replace hk' : k' < 5 := hk'
      obtain ⟨f0, -⟩ := hF
      replace f0 : ρ (.tmp 1) = .pointer (some ⟨w.heap.size, 0, none⟩) := f0
      refine good_of fun K hK => ?_
      have z0 := (hR.of_drew.cell hz (by simp) 0).trans (hc 0); have z1 := (hR.of_drew.cell hz (by simp) 1).trans (hc 1); have z2 := (hR.of_drew.cell hz (by simp) 2).trans (hc 2); have z3 := (hR.of_drew.cell hz (by simp) 3).trans (hc 3); have z4 := (hR.of_drew.cell hz (by simp) 4).trans (hc 4); go_simp; exact hK _ _ (RS.refl _ _) (trivial) rfl
    · intro k' w' ρ hk' hR hM hF
      replace hk' : k' < 5 := hk'
      obtain ⟨f0, f1, -⟩ := hF
      replace f0 : ρ (.func _) = .func (.func _) #[] #[] := f0
      replace f1 : ρ (.tmp 36) = .agg #[S s, .int .i64 x, S cl, .slice A ms.length c, .int .i64 pa] := f1
      refine good_of fun K hK => ?_
      go_simp; refine (T.out _ (up_trans HW.out hR.of_drew.to_below) hs1).mono ?_; rintro e wc ⟨u, rfl, ho, hb⟩; exact ⟨_, rfl, hK _ _ ((RS.refl _ _).below hb) trivial ⟨u, rfl, RdL.of_own ho⟩⟩
    · intro k' w' ρ hk' hR hM hF
      replace hk' : k' < 5 := hk'
      obtain ⟨f0, f1, f2, -⟩ := hF
      replace f0 : ρ (.func _) = .func (.func _) #[] #[] := f0
      replace f1 : ρ (.tmp 35) = .agg #[S s, .int .i64 x, S cl, .slice XA ms.length XC, .int .i64 pa] := f1
      refine good_of fun K hK => ?_
      obtain ⟨u, f2, hu⟩ := f2; replace f2 : ρ (.tmp _) = .agg #[S s, .int .i64 x, S cl, u, .int .i64 pa] := f2; have HX := Lib.hid (HX5.out.up hR.of_drew.to_below); have HU := Lib.hid hu; clear hu; go_simp; refine (X.out _ _ _ HX.out HU.out).mono ?_; rintro e wc ⟨rfl, hb⟩; exact ⟨_, rfl, hK _ _ ((RS.refl _ _).below hb) trivial rfl⟩
    · intro k' w' ρ hk' hR hM hF
      replace hk' : k' < 5 := hk'
      obtain ⟨f0, -⟩ := hF
      replace f0 : ρ (.tmp 38) = .bool true := f0
      refine good_of fun K hK => ?_
      go_simp
      exact hK _ _ (RS.refl _ _) (trivial) (rfl)
  · intro w' hR hM
    rintro _ rfl
    rintro _ rfl
    rintro _ ⟨_, rfl, -⟩
    rintro _ rfl
    rintro _ rfl
  --END
    dsimp only [EndAll, Act.put]
    obtain ⟨w7, rfl⟩ : ∃ z, z = w' := ⟨_, rfl⟩
    have hW := up_trans HW.out (show Below w5.heap.size w5 w7 from hR.of_drew.to_below)
    clear hR hM HW
    go_wp2_with fail
    go_ret
    exact ⟨rfl, hW⟩

end Go.Proofs.YtbjlkdenkmbepaaGreatDoor
