/- What is proved here: the contract of the reference's ChangeBuffer. No condition. -/
import Derived.Test.YtlejfmngpbcdhaaChg4
import Derived.Test.YtlejfmngpbcdhaaEver2
import Derived.BigQuiet
namespace Go.Proofs.Ytlejfmngpbcdhaa
open Go.RowKit

/-- the world goes on, and a block g that holds what w2's holds keeps it. -/
def RK (g : Nat) (w2 : World) (a b : World) : Prop := RS [g] a b ∧ (a.heap[g]? = w2.heap[g]? → b.heap[g]? = w2.heap[g]?)
theorem RK.refl (g : Nat) (w2 a : World) : RK g w2 a a := ⟨RS.refl _ _, id⟩
theorem RK.trans {g : Nat} {w2 a b c : World} (h : RK g w2 a b) (k : RK g w2 b c) : RK g w2 a c := ⟨h.1.trans k.1, fun e => k.2 (h.2 e)⟩
def kEq {g : Nat} {w2 : World} (u : Value) : Ty (RK g w2) := ⟨fun v _ => v = u, fun _ _ _ _ h => h⟩
def MK (g : Nat) (a b : World) (w : World) : Prop := w.heap[g]? = a.heap[g]? ∨ w.heap[g]? = b.heap[g]?
theorem MK.drew {g : Nat} {a b w : World} (h : MK g a b w) : MK g a b w.drew := h
theorem MK.keep {g : Nat} {a b w w' : World} (h : MK g a b w) (e : w'.heap[g]? = w.heap[g]?) : MK g a b w' := h.imp (e.trans ·) (e.trans ·)
theorem RS.lt {L : List Nat} {a b : World} (h : RS L a b) {g : Nat} (hg : g < a.heap.size) : g < b.heap.size := Nat.lt_of_lt_of_le hg h.size
theorem RS.end_own {g : Nat} {w a b : World} (h : RS [g] a b) (hW : Below w.heap.size w a) (hg : w.heap.size ≤ g) : Below w.heap.size w b :=
  ⟨h.os.trans hW.os, h.tape.trans hW.tape, h.output.trans hW.output, Nat.le_trans hW.size h.size, fun i hi => (h.block i (Nat.lt_of_lt_of_le hi hW.size) (by simp; omega)).trans (hW.block i hi)⟩
theorem own_block {a b : World} {base n g cap size : Nat} {e : TypeId} {xs : List Value} (h : Own a base e size (.slice (some ⟨g, 0, none⟩) n cap) n xs) (hg : b.heap[g]? = a.heap[g]?) : Own b base e size (.slice (some ⟨g, 0, none⟩) n cap) n xs := by
  refine ⟨h.1, ?_⟩
  rcases h.2 with hn | ⟨g', cap', cur, hv, hbg, hgg, rest⟩
  · exact .inl hn
  · injection hv with e1 e2 e3
    injection e1 with e1
    injection e1 with e1
    subst e1
    exact .inr ⟨g, cap', cur, by rw [e3], hbg, hg.trans hgg, rest⟩
def kDone {g : Nat} {w2 : World} : Ty (RK g w2) := ⟨fun _ w => w.heap[g]? = w2.heap[g]?, fun _ _ _ h k => h.2 k⟩

theorem mk_row {w5 w' : World} {g i : Nat} {cur : Array Value} {t : TypeId} {u : Value} (hg : w5.heap[g]? = some (.cells cur t (0, 0))) (hM : MK g w5 (w5.setCell ⟨g, i, none⟩ u) w') :
    w'.heap[g]? = some (.cells cur t (0, 0)) ∨ w'.heap[g]? = some (.cells (cur.setIfInBounds i u) t (0, 0)) :=
  hM.imp (fun h => h.trans hg) (fun h => h.trans (heap_setCell_same w5 g i cur t u hg))
theorem mk_cell {w5 w' : World} {g i : Nat} {cur : Array Value} {t : TypeId} {u : Value} (hg : w5.heap[g]? = some (.cells cur t (0, 0))) (hi : i < cur.size) (hM : MK g w5 (w5.setCell ⟨g, i, none⟩ u) w') :
    ∃ x, w'.cell? ⟨g, i, none⟩ = some x ∧ w'.frozen? ⟨g, i, none⟩ = false := by
  rcases mk_row hg hM with h | h
  · exact ⟨cur[i], by rw [cell_of_row w' g i _ _ (0, 0) h]; simp [hi], frozen_of_row w' g i _ _ h⟩
  · exact ⟨u, by rw [cell_of_row w' g i _ _ (0, 0) h]; simp [hi], frozen_of_row w' g i _ _ h⟩
theorem mk_set {w5 w' : World} {g i : Nat} {cur : Array Value} {t : TypeId} {u : Value} (hg : w5.heap[g]? = some (.cells cur t (0, 0))) (hM : MK g w5 (w5.setCell ⟨g, i, none⟩ u) w') :
    RK g (w5.setCell ⟨g, i, none⟩ u) w' (w'.setCell ⟨g, i, none⟩ u) ∧ MK g w5 (w5.setCell ⟨g, i, none⟩ u) (w'.setCell ⟨g, i, none⟩ u) ∧ (kDone (g := g) (w2 := w5.setCell ⟨g, i, none⟩ u)).p undef (w'.setCell ⟨g, i, none⟩ u) := by
  have key : (w'.setCell ⟨g, i, none⟩ u).heap[g]? = (w5.setCell ⟨g, i, none⟩ u).heap[g]? := by
    rw [heap_setCell_same w5 g i cur t u hg]
    rcases mk_row hg hM with h | h
    · exact heap_setCell_same w' g i cur t u h
    · rw [heap_setCell_same w' g i _ t u h]; simp
  exact ⟨⟨(RS.refl _ _).set _ _ (by simp), fun _ => key⟩, .inr key, key⟩

set_option maxRecDepth 100000 in
set_option maxHeartbeats 1000000 in
theorem specChangeBuffer_any (v : Value) (bs : List Bf) (nm : List UInt8) (a c : Int) (p : List UInt8) (w : World) (h : RdB w v bs) (hp : p.length ≤ 1048576) :
    Calls Try.prog 81 #[v, .string ⟨nm.toArray⟩, chV a c p] w (DoPost (cgOk bs nm a c p) (cgOut bs nm a c p) w) := by
  have hW := Below.refl w.heap.size w
  have H00 := Lib.hid h
  unfold chV
  obtain ⟨A, cp, rfl, _, _⟩ := h.1.form
  obtain ⟨i0, hi, hz0, hz1, hz2⟩ := info_parts buf_info
  rcases hv : bvB bs with _ | _
  · have H0 := Lib.hid (show cgOk bs nm a c p = false by unfold cgOk; rw [hv]; rfl)
    have H1 := Lib.hid (show cgOut bs nm a c p = [] by unfold cgOut cgOk; rw [hv]; rfl)
    rw [H0.out, H1.out]
    go_enter Try.func81, Try.ntmps81
    go_wp2_with fail
    refine (specBuffersValid_any _ bs _ (h.up (by (repeat (first | exact Below.refl _ _ | assumption | refine Below.drew ?_ | refine up_drewN ?_ _ | refine up_alloc ?_ _ | refine up_set ?_ _ _ (by first | exact Nat.le_refl _ | (simp; done) | (simp; omega) | omega) | refine up_trans ?_ (by assumption)))))).mono ?_
    rintro e w1 ⟨rfl, hb⟩
    go_wp2_with fail
    go_ret2
    have hW1 : Below w.heap.size w w1 := by (repeat (first | exact Below.refl _ _ | assumption | refine Below.drew ?_ | refine up_drewN ?_ _ | refine up_alloc ?_ _ | refine up_set ?_ _ _ (by first | exact Nat.le_refl _ | (simp; done) | (simp; omega) | omega) | refine up_trans ?_ (by assumption)))
    exact ⟨_, rfl, own_empty _ _ hW1.size, up_alloc hW1 _⟩
  · have hl := bvB_len hv
    go_enter Try.func81, Try.ntmps81
    go_wp2_with fail
    refine (specBuffersValid_any _ bs _ (h.up (by (repeat (first | exact Below.refl _ _ | assumption | refine Below.drew ?_ | refine up_drewN ?_ _ | refine up_alloc ?_ _ | refine up_set ?_ _ _ (by first | exact Nat.le_refl _ | (simp; done) | (simp; omega) | omega) | refine up_trans ?_ (by assumption)))))).mono ?_
    rintro e w1 ⟨rfl, hb⟩
    have hB : Below w.heap.size w w1 := (by (repeat (first | exact Below.refl _ _ | assumption | refine Below.drew ?_ | refine up_drewN ?_ _ | refine up_alloc ?_ _ | refine up_set ?_ _ _ (by first | exact Nat.le_refl _ | (simp; done) | (simp; omega) | omega) | refine up_trans ?_ (by assumption)))); have sw1 := hB.size; replace hW := up_trans hW hB; clear hB
    have xc : ∀ o, w1.cell? ⟨w.heap.size, o, none⟩ = #[.int .i64 a, .int .i64 c, S p][o]? := (fun o => (hb.cell (p := ⟨w.heap.size, o, none⟩) (by simp <;> omega)).trans (by simp [go_sem])); have xf : ∀ o, w1.frozen? ⟨w.heap.size, o, none⟩ = false := (fun o => (hb.frozen (p := ⟨w.heap.size, o, none⟩) (by simp <;> omega)).trans (by simp [go_sem])); have xz : w.heap.size < w1.heap.size := (by have := hb.size; (try simp at this); omega); have xy := xz
    replace h := h.up hW
    clear hb xf
    have hsz1 := h.1
    go_wp2_with (at_builtin; refine wpList_append_any _ rfl _ _ 32 rfl w1.heap.size 37 i0 _ 3 48 Try.underlying32 hi hz0 hz1 hz2 rfl (by decide) _ _ _ rfl (own_empty w1 w1.heap.size (Nat.le_refl _)) _ bs.length _ rfl (Rd.alloc hsz1 _) (bf_oneCell bs) (by unfold maxLen; omega) (by omega) (by simp) ?_; intro v2 w2 ho hgr2)
    have hb2 : Below w1.heap.size w1 w2 := up_grown (up_alloc (Below.refl _ _) _) (show World.grownBy _ w2 (some w1.heap.size) from hgr2) (fun k hk => by injection hk; omega)
    replace h := h.up hb2
    have d0 := up_c hb2 xz xc 0
    have d1 := up_c hb2 xz xc 1
    have d2 := up_c hb2 xz xc 2
    replace xz := Nat.lt_of_lt_of_le xz hb2.size
    clear xc
    replace hW := up_trans hW hb2
    have ssw2 := hb2.size
    simp only [Nat.zero_add, List.nil_append] at ho
    clear hgr2 hb2 hsz1
    by_cases hf : 0 ≤ bfAt bs nm
    · obtain ⟨k, hk, hk1⟩ := bfAt_nat hf
      have H0 := Lib.hid (show cgOk bs nm a c p = chOk bs[k].body a c p by unfold cgOk; rw [hv, decide_eq_true hf, cgSame_at hk hk1]; rfl)
      obtain ⟨g, cap, cur, rfl, hbg, hh, hnc, hcm, hcs, htake⟩ : ∃ g cap cur, v2 = .slice (some ⟨g, 0, none⟩) bs.length cap ∧ _ := by
        rcases ho.2 with ⟨_, h0⟩ | ⟨g, cap, cur, hx, rest⟩
        · omega
        · exact ⟨g, cap, cur, hx, rest⟩
      clear hh hcs htake
      have i1 : (0 : Int) ≤ (k : Int) := by omega
      have i2 : (k : Int) < (bs.length : Int) := by omega
      have i3 : decide ((k : Int) < 0) = false := decide_eq_false (by omega)
      have gr : w.heap.size ≤ g := by omega
      have Ho := Lib.hid ho
      clear ho hf
      obtain ⟨b, o, rfl, hb, _, c1, c2⟩ := h.cells hk
      have htv : tv bs[k].body = true := by
        have hv' := hv
        unfold bvB at hv'
        rw [Bool.and_eq_true] at hv'
        have := okFrom_all bs hv'.1 k hk
        unfold okAt at this
        simp only [Bool.and_eq_true] at this
        exact this.1.2
      rcases hs : chOk bs[k].body a c p with _ | _
      · rw [hs] at H0
        have H1 := Lib.hid (show cgOut bs nm a c p = bs by unfold cgOut; rw [H0.out, hv]; rfl)
        have hne := UpW.nonempty w2
        have C1 := Lib.hid (fun y : UpW w2 => calls_up (changeFits_any bs[k].body a c p (y.at w2) htv hp))
        unfold chV at C1
        rw [hs] at C1
        go_wp2_with fail
        refine (l24Find_any _ bs _ _ h).mono ?_
        rintro e w4 ⟨rfl, rfl⟩
        rw [hk1]
        go_wp2_with fail
        refine wp_region_up_lit (by kernel_rfl) (by kernel_rfl) ?_
        repeat (go_big_quiet_step ((go_at_call 53; exact C1.out _)))
        refine wpQuiet_nil ?_
        intro w5 hb1
        replace hb1 := UpW.out hb1
        have ho := own_up Ho.out hb1
        replace hW := up_trans hW hb1
        have Ho := Lib.hid ho
        clear ho C1 hne hb1
        go_wp2_with fail
        go_ret2
        rw [H0.out, H1.out]
        exact ⟨_, rfl, own_base Ho.out (by omega), hW⟩
      · rw [hs] at H0
        have H1 := Lib.hid (show cgOut bs nm a c p = cgOne bs k a c p by unfold cgOut; rw [H0.out, hk1]; rfl)
        have hne := UpW.nonempty w2
        have C1 := Lib.hid (fun y : UpW w2 => calls_up (changeFits_any bs[k].body a c p (y.at w2) htv hp))
        unfold chV at C1
        rw [hs] at C1
        go_wp2_with fail
        refine (l24Find_any _ bs _ _ h).mono ?_
        rintro e w4 ⟨rfl, rfl⟩
        rw [hk1]
        go_wp2_with fail
        refine wp_region_up_lit (by kernel_rfl) (by kernel_rfl) ?_
        repeat (go_big_quiet_step ((go_at_call 53; exact C1.out _)))
        refine wpQuiet_nil ?_
        intro w5 hb1
        replace hb1 := UpW.out hb1
        have ho := own_up Ho.out hb1
        have hW5 := up_trans hW hb1
        have e0 := (hb1.cell (p := ⟨w.heap.size, 0, none⟩) xz).trans d0
        have e1 := (hb1.cell (p := ⟨w.heap.size, 1, none⟩) xz).trans d1
        have e2 := (hb1.cell (p := ⟨w.heap.size, 2, none⟩) xz).trans d2
        have y1 := (hb1.cell (p := ⟨b, o + k * 3 + 1, none⟩) hb).trans c1
        have bz : b < w5.heap.size := Nat.lt_of_lt_of_le hb hb1.size
        have xz5 : w.heap.size < w5.heap.size := Nat.lt_of_lt_of_le xz hb1.size
        have gz : g < w5.heap.size := (ho.lt g rfl).2
        have bg : b ≠ g := by
          obtain ⟨b', o', hA', hb', _⟩ := H00.out.cells hk
          injection hA' with hA'
          injection hA' with hA'
          omega
        have xg : w.heap.size ≠ g := by omega
        have CA := Lib.hid (fun w => specApplyChange_any bs[k].body a c p w (h.2 _ (List.getElem_mem hk)).2.1 hp)
        unfold chV at CA
        unfold AcPost at CA
        rw [hs] at CA
        obtain ⟨cur5, gg, gi⟩ : ∃ cur5 : Array Value, w5.heap[g]? = some (.cells cur5 37 (0, 0)) ∧ k * 3 + 1 < cur5.size := by
          rcases ho.2 with ⟨hx, _⟩ | ⟨g', cap', cur', hx, _, h1, h2, _, h3, _⟩
          · cases hx
          · injection hx with hx1 hx2 hx3
            injection hx1 with hx1
            injection hx1 with hx1
            subst hx1
            exact ⟨cur', h1, by omega⟩
        go_wp2_with fail
        --EVER{spec.ChangeBuffer;7;chg7}
        refine wp_region_ever (R := RK g (w5.setCell ⟨g, k * 3 + 1, none⟩ (S (apTo bs[k].body a c p)))) (M := fun _ => MK g w5 (w5.setCell ⟨g, k * 3 + 1, none⟩ (S (apTo bs[k].body a c p)))) [kEq (.slice (some ⟨g, 0, none⟩) bs.length cap), kEq (.int .i64 k), kEq (.slice (some ⟨b, o, none⟩) bs.length cp), kEq (.int .i64 k), kEq (.pointer (some ⟨b, o + k * 3, none⟩)), kEq (.pointer (some ⟨b, o + k * 3 + 1, none⟩)), kEq (S bs[k].body), kEq (.agg #[.int .i64 a, .int .i64 c, S p]), kEq (.tuple #[S (apTo bs[k].body a c p), .bool true]), kEq (.tuple #[S (apTo bs[k].body a c p), .bool true]), kEq (S (apTo bs[k].body a c p)), kEq (.bool true), kEq (.pointer (some ⟨g, k * 3, none⟩)), kEq (.pointer (some ⟨g, k * 3 + 1, none⟩)), kDone] (by kernel_rfl) (RK.refl _ _) (fun _ _ _ => RK.trans) (by kernel_rfl) (MK.drew (.inl rfl)) ?_ ?_
        · refine ⟨?_, ?_, ?_, ?_, ?_, ?_, ?_, ?_, ?_, ?_, ?_, ?_, ?_, ?_, ?_, trivial⟩
          · intro k' w' ρ hk' hR hM hF
            replace hk' : k' < 15 := hk'
            obtain ⟨f0, -⟩ := hF
            replace f0 : ρ (.tmp 8) = .slice (some ⟨g, 0, none⟩) bs.length cap := f0
            exact ⟨RK.refl _ _ _, hM, f0⟩
          · intro k' w' ρ hk' hR hM hF
            replace hk' : k' < 15 := hk'
            obtain ⟨f0, -⟩ := hF
            replace f0 : ρ (.tmp 9) = .int .i64 k := f0
            exact ⟨RK.refl _ _ _, hM, f0⟩
          · intro k' w' ρ hk' hR hM hF
            replace hk' : k' < 15 := hk'
            obtain ⟨f0, -⟩ := hF
            replace f0 : ρ (.tmp 0) = .slice (some ⟨b, o, none⟩) bs.length cp := f0
            exact ⟨RK.refl _ _ _, hM, f0⟩
          · intro k' w' ρ hk' hR hM hF
            replace hk' : k' < 15 := hk'
            obtain ⟨f0, -⟩ := hF
            replace f0 : ρ (.tmp 9) = .int .i64 k := f0
            exact ⟨RK.refl _ _ _, hM, f0⟩
          · intro k' w' ρ hk' hR hM hF
            replace hk' : k' < 15 := hk'
            obtain ⟨f0, f1, -⟩ := hF
            replace f0 : ρ (.tmp 36) = .slice (some ⟨b, o, none⟩) bs.length cp := f0
            replace f1 : ρ (.tmp 37) = .int .i64 k := f1
            refine good_of fun K hK => ?_
            go_simp
            exact hK _ _ (RK.refl _ _ _) (hM) (rfl)
          · intro k' w' ρ hk' hR hM hF
            replace hk' : k' < 15 := hk'
            obtain ⟨f0, -⟩ := hF
            replace f0 : ρ (.tmp 38) = .pointer (some ⟨b, o + k * 3, none⟩) := f0
            refine good_of fun K hK => ?_
            go_simp
            exact hK _ _ (RK.refl _ _ _) (hM) (rfl)
          · intro k' w' ρ hk' hR hM hF
            replace hk' : k' < 15 := hk'
            obtain ⟨f0, -⟩ := hF
            replace f0 : ρ (.tmp 39) = .pointer (some ⟨b, o + k * 3 + 1, none⟩) := f0
            refine good_of fun K hK => ?_
            have z1 := (hR.1.cell bz (by simpa using bg) (o + k * 3 + 1)).trans y1; go_simp; exact hK _ _ (RK.refl _ _ _) hM rfl
          · intro k' w' ρ hk' hR hM hF
            replace hk' : k' < 15 := hk'
            obtain ⟨f0, -⟩ := hF
            replace f0 : ρ (.tmp 5) = .pointer (some ⟨w.heap.size, 0, none⟩) := f0
            refine good_of fun K hK => ?_
            have z0 := (hR.1.cell xz5 (by simpa using xg) 0).trans e0; have z1 := (hR.1.cell xz5 (by simpa using xg) 1).trans e1; have z2 := (hR.1.cell xz5 (by simpa using xg) 2).trans e2; go_simp; exact hK _ _ (RK.refl _ _ _) hM rfl
          · intro k' w' ρ hk' hR hM hF
            replace hk' : k' < 15 := hk'
            obtain ⟨f0, f1, f2, -⟩ := hF
            replace f0 : ρ (.func _) = .func (.func _) #[] #[] := f0
            replace f1 : ρ (.tmp 40) = S bs[k].body := f1
            replace f2 : ρ (.tmp 41) = .agg #[.int .i64 a, .int .i64 c, S p] := f2
            refine good_of fun K hK => ?_
            go_simp; refine (CA.out _).mono ?_; rintro e w1 ⟨rfl, hb⟩; exact ⟨_, rfl, hK _ _ ⟨(RS.refl _ _).below hb, fun h => by rw [hb.block g (hR.1.lt gz), h]⟩ (hM.keep (hb.block g (hR.1.lt gz))) rfl⟩
          · intro k' w' ρ hk' hR hM hF
            replace hk' : k' < 15 := hk'
            obtain ⟨f0, -⟩ := hF
            replace f0 : ρ (.tmp 42) = .tuple #[S (apTo bs[k].body a c p), .bool true] := f0
            exact ⟨RK.refl _ _ _, hM, f0⟩
          · intro k' w' ρ hk' hR hM hF
            replace hk' : k' < 15 := hk'
            obtain ⟨f0, -⟩ := hF
            replace f0 : ρ (.tmp 33) = .tuple #[S (apTo bs[k].body a c p), .bool true] := f0
            refine good_of fun K hK => ?_
            go_simp
            exact hK _ _ (RK.refl _ _ _) (hM) (rfl)
          · intro k' w' ρ hk' hR hM hF
            replace hk' : k' < 15 := hk'
            obtain ⟨f0, -⟩ := hF
            replace f0 : ρ (.tmp 33) = .tuple #[S (apTo bs[k].body a c p), .bool true] := f0
            refine good_of fun K hK => ?_
            go_simp
            exact hK _ _ (RK.refl _ _ _) (hM) (rfl)
          · intro k' w' ρ hk' hR hM hF
            replace hk' : k' < 15 := hk'
            obtain ⟨f0, f1, -⟩ := hF
            replace f0 : ρ (.tmp 34) = .slice (some ⟨g, 0, none⟩) bs.length cap := f0
            replace f1 : ρ (.tmp 35) = .int .i64 k := f1
            refine good_of fun K hK => ?_
            go_simp
            exact hK _ _ (RK.refl _ _ _) (hM) (rfl)
          · intro k' w' ρ hk' hR hM hF
            replace hk' : k' < 15 := hk'
            obtain ⟨f0, -⟩ := hF
            replace f0 : ρ (.tmp 45) = .pointer (some ⟨g, k * 3, none⟩) := f0
            refine good_of fun K hK => ?_
            go_simp
            exact hK _ _ (RK.refl _ _ _) (hM) (rfl)
          · intro k' w' ρ hk' hR hM hF
            replace hk' : k' < 15 := hk'
            obtain ⟨f0, f1, -⟩ := hF
            replace f0 : ρ (.tmp 46) = .pointer (some ⟨g, k * 3 + 1, none⟩) := f0
            replace f1 : ρ (.tmp 43) = S (apTo bs[k].body a c p) := f1
            refine good_of fun K hK => ?_
            obtain ⟨u1, q1, q2⟩ := mk_cell gg gi hM; go_simp; exact (fun h => hK _ _ h.1 h.2.1 h.2.2) (mk_set gg hM)
        · intro w' hR hM
          rintro _ rfl
          rintro _ rfl
          rintro _ rfl
          rintro _ rfl
          rintro _ rfl
          rintro _ rfl
          rintro _ rfl
          rintro _ rfl
          rintro _ rfl
          rintro _ rfl
          rintro _ rfl
          rintro _ rfl
          rintro _ rfl
          rintro _ rfl
          rintro _ hdone
        --END
          replace hdone : w'.heap[g]? = (w5.setCell ⟨g, k * 3 + 1, none⟩ (S (apTo bs[k].body a c p))).heap[g]? := hdone
          have st := (ho.stored (k * 3 + 1) (S (apTo bs[k].body a c p))).1
          rw [flat_set1 bs k hk, ← cgOne_at bs k a c p hk] at st
          have Ho := Lib.hid (own_block st hdone)
          have HF := Lib.hid (hR.1.of_drew.end_own hW5 gr)
          clear hR hM hdone st gg gi gz y1 e0 e1 e2 ho CA hb1 C1 hne d0 d1 d2 c1 c2 bz xz5 hb bg xg
          dsimp only [EndAll, Act.put]
          go_wp2_with fail
          go_ret2
          rw [H0.out, H1.out]
          refine ⟨_, rfl, ?_, HF.out⟩
          rw [show (cgOne bs k a c p).length = bs.length by rw [cgOne_at bs k a c p hk]; simp]
          exact own_base Ho.out (by omega)
    · have H0 := Lib.hid (show cgOk bs nm a c p = false by unfold cgOk; rw [hv, decide_eq_false hf]; rfl)
      have H1 := Lib.hid (show cgOut bs nm a c p = bs by unfold cgOut; rw [H0.out, hv]; rfl)
      have i3 : decide (bfAt bs nm < 0) = true := decide_eq_true (by omega)
      have Ho := Lib.hid ho
      clear ho
      go_wp2_with fail
      refine (l24Find_any _ bs _ _ h).mono ?_
      rintro e w4 ⟨rfl, rfl⟩
      go_wp2_with fail
      go_quiet (fail)
      go_wp2_with fail
      go_ret2
      rw [H0.out, H1.out]
      exact ⟨_, rfl, own_base Ho.out (by omega), by (repeat (first | exact Below.refl _ _ | assumption | refine Below.drew ?_ | refine up_drewN ?_ _ | refine up_alloc ?_ _ | refine up_set ?_ _ _ (by first | exact Nat.le_refl _ | (simp; done) | (simp; omega) | omega) | refine up_trans ?_ (by assumption)))⟩

end Go.Proofs.Ytlejfmngpbcdhaa
