/- What is proved here: the contract of the once-made table of a Replacer: buildOnce, doSlow and Do where nobody else runs. No condition. -/
import Derived.Test.YtdngdlcibaiekaaGreatDoorRp0
import Derived.Test.YtdngdlcibaiekaaGreatDoorRp2
namespace Go.Proofs.YtdngdlcibaiekaaGreatDoor
open Go.RowKit
set_option linter.unusedVariables false

/-- the table, to be read. -/
structure Tbl (w : World) (B : Nat) : Prop where
  lt : B < w.heap.size
  nils : ∀ k, k < 256 → k ≠ 10 → k ≠ 92 → w.cell? ⟨B, k, none⟩ = some (.slice none 0 0)
  r10 : ∃ a c, a < w.heap.size ∧ w.cell? ⟨B, 10, none⟩ = some (.slice (some ⟨a, 0, none⟩) 2 c) ∧ w.cell? ⟨a, 0, none⟩ = some (.int .u8 92) ∧ w.cell? ⟨a, 1, none⟩ = some (.int .u8 110)
  r92 : ∃ a c, a < w.heap.size ∧ w.cell? ⟨B, 92, none⟩ = some (.slice (some ⟨a, 0, none⟩) 2 c) ∧ w.cell? ⟨a, 0, none⟩ = some (.int .u8 92) ∧ w.cell? ⟨a, 1, none⟩ = some (.int .u8 92)
  own : ∃ T c, T < w.heap.size ∧ w.cell? ⟨B, 256, none⟩ = some (.slice (some ⟨T, 0, none⟩) 2 c) ∧ w.cell? ⟨T, 0, none⟩ = some (S [92]) ∧ w.cell? ⟨T, 1, none⟩ = some (S [10])
theorem Tbl.of {w wr w' : World} {B T : Nat} (h : TbS w wr B T [[92], [10]] true true) (hs : wr.heap.size ≤ w'.heap.size) (hc : ∀ i j, w.heap.size ≤ i → i < wr.heap.size → w'.cell? ⟨i, j, none⟩ = wr.cell? ⟨i, j, none⟩) : Tbl w' B := by
  have hB := h.base
  have hBz := h.lt
  have hT := h.baseT
  have hTz := h.ltT
  refine ⟨by omega, fun k h1 h2 h3 => (hc B k hB hBz).trans (h.nils k h1 h2 h3), ?_, ?_, ?_⟩
  · obtain ⟨a, c, h0, h1, h2, h3, h4, h5, h6⟩ := h.t10.2 rfl
    exact ⟨a, c, by omega, (hc B 10 hB hBz).trans h1, (hc a 0 h0 h4).trans h5, (hc a 1 h0 h4).trans h6⟩
  · obtain ⟨a, c, h0, h1, h2, h3, h4, h5, h6⟩ := h.t92.2 rfl
    exact ⟨a, c, by omega, (hc B 92 hB hBz).trans h1, (hc a 0 h0 h4).trans h5, (hc a 1 h0 h4).trans h6⟩
  · obtain ⟨c, h1, h2⟩ := h.own
    have hR := RdL.of_own (f := strC) (bs := [[92], [10]]) h2
    obtain ⟨b, o, e1, hb, k0⟩ := hR.cells strC_len (show 0 < 2 by omega)
    obtain ⟨b', o', e2, hb', k1⟩ := hR.cells strC_len (show 1 < 2 by omega)
    injection e1 with e1
    injection e1 with e1 e1'
    subst e1
    subst e1'
    injection e2 with e2
    injection e2 with e2 e2'
    subst e2
    subst e2'
    exact ⟨T, c, by omega, (hc B 256 hB hBz).trans h1, (hc T 0 hT hTz).trans (k0 0 _ rfl), (hc T 1 hT hTz).trans (k1 0 _ rfl)⟩

def OncePost (R : Nat) (w : World) (e : Ending) (w' : World) : Prop := ∃ B T w1, e = .returned (.tuple #[]) ∧ TbS w w1 B T [[92], [10]] true true ∧ w' = (w1.setCell ⟨R, 3, none⟩ (.iface 177 (.pointer (some ⟨B, 0, none⟩)))).setCell ⟨R, 4, none⟩ (.slice none 0 0)

set_option maxRecDepth 100000 in
theorem buildOnce_any (R q o c : Nat) (x3 : Value) (w : World) (hR : R < w.heap.size) (h3 : w.cell? ⟨R, 3, none⟩ = some x3) (h4 : w.cell? ⟨R, 4, none⟩ = some (.slice (some ⟨q, o, none⟩) 4 c)) (hf : ∀ j, w.frozen? ⟨R, j, none⟩ = false) (hO : OldAt w q o) :
    Calls Tryz.prog 79 #[.pointer (some ⟨R, 0, none⟩)] w (OncePost R w) := by
  have HB := Lib.hid (build_any R q o c w h4 hO)
  go_enter Tryz.func79, Tryz.ntmps79
  go_wp2_with fail
  refine HB.out.mono ?_
  rintro e w1 ⟨B, T, rfl, HS⟩
  have c3 := (HS.below.cell (p := ⟨R, 3, none⟩) hR).trans h3
  have c4 := (HS.below.cell (p := ⟨R, 4, none⟩) hR).trans h4
  have f3 : ∀ j, w1.frozen? ⟨R, j, none⟩ = false := fun j => (HS.below.frozen (p := ⟨R, j, none⟩) hR).trans (hf j)
  have hW := Lib.hid HS
  clear HS h3 h4 hf
  go_wp2_with fail
  go_end0
  exact ⟨B, T, w1, rfl, hW.out, rfl⟩

/-- behind Do: the table lies where the Replacer's cell 3 says. -/
def DoPost (R : Nat) (w : World) (e : Ending) (w' : World) : Prop := ∃ B, e = .returned (.tuple #[]) ∧ w'.cell? ⟨R, 3, none⟩ = some (.iface 177 (.pointer (some ⟨B, 0, none⟩))) ∧ Tbl w' B ∧ ∀ n, n ≤ R → Below n w w'

theorem do_fin {R B T : Nat} {w w1 w4 : World} (h : TbS w1 w4 B T [[92], [10]] true true) (kz : R < w1.heap.size) (kB : ∀ n, n ≤ R → Below n w w1) (m3 : w4.cell? ⟨R, 3, none⟩ = some .nilIface) :
    DoPost R w (.returned (.tuple #[])) ((((w4.setCell ⟨R, 3, none⟩ (.iface 177 (.pointer (some ⟨B, 0, none⟩)))).setCell ⟨R, 4, none⟩ (.slice none 0 0)).drew.setCell ⟨R, 0, none⟩ (.int .u32 1)).setCell ⟨R, 1, none⟩ (.int .i32 0)) := by
  refine ⟨B, rfl, ?_, Tbl.of h (by simp) (fun i j hi hi2 => ?_), fun n hn => ?_⟩
  · rw [World.cell?_setCell_other _ ⟨R, 1, none⟩ ⟨R, 3, none⟩ _ (by simp), World.cell?_setCell_other _ ⟨R, 0, none⟩ ⟨R, 3, none⟩ _ (by simp), World.cell?_drew, World.cell?_setCell_other _ ⟨R, 4, none⟩ ⟨R, 3, none⟩ _ (by simp)]
    exact World.cell?_setCell_same _ _ _ m3
  · have ne : ∀ k, (⟨R, k, none⟩ : Addr) ≠ ⟨i, j, none⟩ := fun k e => by injection e with e _; omega
    rw [World.cell?_setCell_other _ _ _ _ (ne _), World.cell?_setCell_other _ _ _ _ (ne _), World.cell?_drew, World.cell?_setCell_other _ _ _ _ (ne _), World.cell?_setCell_other _ _ _ _ (ne _)]
  · exact ((((((kB n hn).trans (h.below.mono (by omega))).setCell hn _).setCell hn _).drew).setCell hn _).setCell hn _

set_option maxRecDepth 100000 in
set_option maxHeartbeats 1600000 in
theorem doSlow_any (R q o c : Nat) (w : World) (hR : IsB w R #[.int .u32 0, .int .i32 0, .int .u32 0, .nilIface, .slice (some ⟨q, o, none⟩) 4 c]) (hO : OldAt w q o) (hq : q ≠ R) :
    Calls Tryz.prog 103 #[.pointer (some ⟨R, 0, none⟩), .func (.func 79) #[.pointer (some ⟨R, 0, none⟩)] #[]] w (DoPost R w) := by
  obtain ⟨hc, hf, hz⟩ := hR
  have h0 : w.cell? ⟨R, 0, none⟩ = some (.int .u32 0) := hc 0
  have h1 : w.cell? ⟨R, 1, none⟩ = some (.int .i32 0) := hc 1
  have h3 : w.cell? ⟨R, 3, none⟩ = some .nilIface := hc 3
  have h4 : w.cell? ⟨R, 4, none⟩ = some (.slice (some ⟨q, o, none⟩) 4 c) := hc 4
  obtain ⟨w1, hw1⟩ : ∃ z, z = w.setCell ⟨R, 1, none⟩ (.int .i32 1) := ⟨_, rfl⟩
  have k0 : w1.cell? ⟨R, 0, none⟩ = some (.int .u32 0) := by rw [hw1, World.cell?_setCell_other _ ⟨R, 1, none⟩ ⟨R, 0, none⟩ _ (by simp)]; exact h0
  have k1 : w1.cell? ⟨R, 1, none⟩ = some (.int .i32 1) := by rw [hw1]; exact World.cell?_setCell_same _ _ _ h1
  have k3 : w1.cell? ⟨R, 3, none⟩ = some .nilIface := by rw [hw1, World.cell?_setCell_other _ ⟨R, 1, none⟩ ⟨R, 3, none⟩ _ (by simp)]; exact h3
  have k4 : w1.cell? ⟨R, 4, none⟩ = some (.slice (some ⟨q, o, none⟩) 4 c) := by rw [hw1, World.cell?_setCell_other _ ⟨R, 1, none⟩ ⟨R, 4, none⟩ _ (by simp)]; exact h4
  have kz : R < w1.heap.size := by rw [hw1]; simpa using hz
  have kf : ∀ j, w1.frozen? ⟨R, j, none⟩ = false := fun j => by rw [hw1]; simp [hf j]
  have kO : OldAt w1 q o := by
    obtain ⟨m0, m1, m2, m3, m4⟩ := hO
    refine ⟨by rw [hw1]; simpa using m0, ?_, ?_, ?_, ?_⟩ <;> (rw [hw1, World.cell?_setCell_other _ ⟨R, 1, none⟩ ⟨q, _, none⟩ _ (by intro e; injection e with e _; exact hq e.symm)]; assumption)
  have kB : ∀ n, n ≤ R → Below n w w1 := fun n hn => by rw [hw1]; exact (Below.refl _ _).setCell hn _
  have HL := Lib.hid (lock_free R 1 w h1 (hf 1))
  have HLd := Lib.hid (load_zero R 0 w1 k0)
  have HBO := Lib.hid (buildOnce_any R q o c .nilIface w1 kz k3 k4 kf kO)
  rw [← hw1] at HL
  have k0' := k0
  have k3' := k3
  clear hw1 h0 h1 h3 h4 hc hf k0 k3 k4 kO hO
  go_enter_defers Tryz.func103, Tryz.ntmps103
  go_wp2_with fail
  refine HL.out.mono ?_
  rintro e w2 ⟨rfl, rfl⟩
  go_wp2_with fail
  refine HLd.out.mono ?_
  rintro e w3 ⟨rfl, rfl⟩
  go_wp2_with fail
  refine HBO.out.mono ?_
  rintro e w3 ⟨B, T, w4, rfl, HS, rfl⟩
  have m1 := (HS.below.cell (p := ⟨R, 1, none⟩) kz).trans k1
  have m0 := (HS.below.cell (p := ⟨R, 0, none⟩) kz).trans k0'
  have m3 := (HS.below.cell (p := ⟨R, 3, none⟩) kz).trans k3'
  have mf : ∀ j, w4.frozen? ⟨R, j, none⟩ = false := fun j => (HS.below.frozen (p := ⟨R, j, none⟩) kz).trans (kf j)
  have HT := Lib.hid HS
  clear HS HBO HLd HL k1 kf
  go_wp2
  refine leaves_cons (f := 121) (args := #[.pointer (some ⟨R, 0, none⟩), .bool true]) (by simp) (by simp [go_sem]) ?_
  refine (store_deferred ⟨R, 0, none⟩ (.int .u32 0) .returning _ ?_ (by simp [mf])).mono ?_
  · exact (World.cell?_setCell_other _ ⟨R, 4, none⟩ ⟨R, 0, none⟩ _ (by simp)).trans ((World.cell?_setCell_other _ ⟨R, 3, none⟩ ⟨R, 0, none⟩ _ (by simp)).trans m0)
  rintro e u' w'' ⟨rfl, rfl, rfl⟩
  refine leaves_cons (f := 120) (args := #[.pointer (some ⟨R, 1, none⟩)]) (by simp [settle]) (by simp [go_sem]) ?_
  refine (unlock_deferred R 1 _ _ ?_ (by simp [mf])).mono ?_
  · refine (World.cell?_setCell_other _ ⟨R, 0, none⟩ ⟨R, 1, none⟩ _ (by simp)).trans ?_
    rw [World.cell?_drew]
    exact (World.cell?_setCell_other _ ⟨R, 4, none⟩ ⟨R, 1, none⟩ _ (by simp)).trans ((World.cell?_setCell_other _ ⟨R, 3, none⟩ ⟨R, 1, none⟩ _ (by simp)).trans m1)
  rintro e u' w'' ⟨rfl, rfl, rfl⟩
  have HF := do_fin HT.out kz kB m3
  generalize ((((w4.setCell ⟨R, 3, none⟩ (.iface 177 (.pointer (some ⟨B, 0, none⟩)))).setCell ⟨R, 4, none⟩ (.slice none 0 0)).drew.setCell ⟨R, 0, none⟩ (.int .u32 1)).setCell ⟨R, 1, none⟩ (.int .i32 0)) = w9 at *
  simp [Leaves, settle, results, Tryz.results103]
  exact HF

set_option maxRecDepth 100000 in
theorem do_any (R q o c : Nat) (w : World) (hR : IsB w R #[.int .u32 0, .int .i32 0, .int .u32 0, .nilIface, .slice (some ⟨q, o, none⟩) 4 c]) (hO : OldAt w q o) (hq : q ≠ R) :
    Calls Tryz.prog 78 #[.pointer (some ⟨R, 0, none⟩), .func (.func 79) #[.pointer (some ⟨R, 0, none⟩)] #[]] w (DoPost R w) := by
  have HLd := Lib.hid (load_zero R 0 w (hR.1 0))
  have HD := Lib.hid (doSlow_any R q o c w hR hO hq)
  clear hR hO
  go_enter Tryz.func78, Tryz.ntmps78
  go_wp2_with fail
  refine HLd.out.mono ?_
  rintro e w2 ⟨rfl, rfl⟩
  go_wp2_with fail
  refine HD.out.mono ?_
  rintro e w3 ⟨B, rfl, h⟩
  have H := Lib.hid h
  clear h
  go_wp2_with fail
  go_end0
  exact ⟨B, rfl, H.out⟩

end Go.Proofs.YtdngdlcibaiekaaGreatDoor
