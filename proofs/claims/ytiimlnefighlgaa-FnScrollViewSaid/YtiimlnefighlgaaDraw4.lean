/- What is proved here: the contract of DrawScrollView. No condition but that the code is a slice of bytes. -/
import Derived.Test.YtiimlnefighlgaaDraw3
import Derived.Test.YtiimlnefighlgaaEver2
namespace Go.Proofs.Ytiimlnefighlgaa
open Go.RowKit

/-- a block that holds a view. -/
def VC (B : Nat) (w : World) : Prop := ∃ t k : Int, w.heap[B]? = some (.cells #[.int .i64 t, .int .i64 k] 25 (0, 0))
theorem VC.lt {B : Nat} {w : World} (h : VC B w) : B < w.heap.size := by
  obtain ⟨t, k, h⟩ := h
  exact (Array.getElem?_eq_some_iff.1 h).1
theorem VC.up {B : Nat} {w w' : World} (h : VC B w) (hb : w'.heap[B]? = w.heap[B]?) : VC B w' := by
  obtain ⟨t, k, h⟩ := h
  exact ⟨t, k, hb.trans h⟩
theorem VC.grown {B g : Nat} {w w' : World} (h : VC B w) (hb : w.grownBy w' (some g)) (hn : B ≠ g) : VC B w' :=
  h.up (hb.block B h.lt (fun e => hn (by injection e)))
theorem VC.alloc {B : Nat} {w : World} (h : VC B w) (o : Obj) : VC B (w.alloc o) := by
  have := World.grownBy_alloc w o none
  exact h.up (this.block B h.lt (by simp))
theorem VC.cells {B : Nat} {w : World} (h : VC B w) : ∃ t k : Int, w.cell? ⟨B, 0, none⟩ = some (.int .i64 t) ∧ w.cell? ⟨B, 1, none⟩ = some (.int .i64 k) := by
  obtain ⟨t, k, h⟩ := h
  exact ⟨t, k, cell_of_row w B 0 _ _ (0, 0) h, cell_of_row w B 1 _ _ (0, 0) h⟩
theorem VC.fr {B : Nat} {w : World} (h : VC B w) (o : Nat) : w.frozen? ⟨B, o, none⟩ = false := by
  obtain ⟨t, k, h⟩ := h
  exact frozen_of_row w B o _ _ h
theorem VC.set0 {B : Nat} {w : World} (h : VC B w) (x : Int) : VC B (w.setCell ⟨B, 0, none⟩ (.int .i64 x)) := by
  obtain ⟨t, k, h⟩ := h
  exact ⟨x, k, heap_setCell_same w B 0 _ _ _ h⟩
theorem VC.set1 {B : Nat} {w : World} (h : VC B w) (x : Int) : VC B (w.setCell ⟨B, 1, none⟩ (.int .i64 x)) := by
  obtain ⟨t, k, h⟩ := h
  exact ⟨t, x, heap_setCell_same w B 1 _ _ _ h⟩
theorem vc_rdr {w : World} {g n p B : Nat} {zs : List Int} (hr : Rdr w g n zs p) (hB : VC B w) (hn : B ≠ g) (i : Nat) (u : Value) : Rdr (w.setCell ⟨B, i, none⟩ u) g n zs p := by
  obtain ⟨v, h1, h2, h3, h4, h5, A, c, rfl, h6, h7, h8⟩ := hr
  refine ⟨_, (heap_setCell_other w ⟨B, i, none⟩ g u (fun e => hn e.symm)).trans h1, h2, h3, h4, h5, A, c, rfl, h6, h7, fun h0 => ?_⟩
  obtain ⟨b, o, rfl, hb, hc⟩ := h8 h0
  refine ⟨b, o, rfl, hb, fun j z hz => ?_⟩
  have hne : b ≠ B := by
    rintro rfl
    obtain ⟨t, k, hB⟩ := hB
    have := hc j z hz
    rw [cell_of_row w b (o + j) _ _ (0, 0) hB] at this
    rcases (show o + j = 0 ∨ o + j = 1 ∨ 2 ≤ o + j by omega) with h | h | h
    · rw [h] at this; simp at this
    · rw [h] at this; simp at this
    · rw [Array.getElem?_eq_none (by simpa using h)] at this; cases this
  exact (World.cell?_of_block (a := ⟨b, o + j, none⟩) (heap_setCell_other w ⟨B, i, none⟩ b u hne)).trans (hc j z hz)
def MV (g n : Nat) (zs : List Int) (p B k : Nat) (w : World) : Prop := MR g n zs p 2 k w ∧ VC B w
theorem MV.next {g n : Nat} {zs : List Int} {p B k : Nat} {w : World} (h : MV g n zs p B k w) : MV g n zs p B (k + 1) w := ⟨h.1.next, h.2⟩
theorem MV.alloc {g n : Nat} {zs : List Int} {p B k : Nat} {w : World} (h : MV g n zs p B k w) (o : Obj) : MV g n zs p B k (w.alloc o) := ⟨h.1.alloc o, h.2.alloc o⟩
theorem MV.drew {g n : Nat} {zs : List Int} {p B k : Nat} {w : World} (h : MV g n zs p B k w) : MV g n zs p B k w.drew := ⟨h.1.drew, h.2⟩
theorem RS.below_all {L : List Nat} {w a b : World} (h : RS L a b) (hW : Below w.heap.size w a) (hL : ∀ x ∈ L, w.heap.size ≤ x) : Below w.heap.size w b :=
  ⟨h.os.trans hW.os, h.tape.trans hW.tape, h.output.trans hW.output, Nat.le_trans hW.size h.size, fun i hi => (h.block i (Nat.lt_of_lt_of_le hi hW.size) (fun hm => by have := hL i hm; omega)).trans (hW.block i hi)⟩

set_option maxRecDepth 100000 in
set_option maxHeartbeats 2000000 in
theorem drawScrollView_any (v : Value) (n : Nat) (zs : List Int) (w : World) (h : Bytes w w.heap.size v n zs) :
    Calls Try.prog 40 #[v] w (DrawView3Post w) := by
  have hW := Below.refl w.heap.size w
  go_enter Try.func40, Try.ntmps40
  go_wp2_with fail
  refine (open_any v n zs _ (h.to (by (repeat (first | exact Below.refl _ _ | assumption | refine Below.drew ?_ | refine up_drewN ?_ _ | refine up_alloc ?_ _ | refine up_set ?_ _ _ (by first | exact Nat.le_refl _ | (simp; done) | (simp; omega) | omega) | refine up_trans ?_ (by assumption)))))).mono ?_
  rintro e w1 ⟨g, m, ys, rfl, hr, hb, hg⟩
  have hB : Below w.heap.size w w1 := (by (repeat (first | exact Below.refl _ _ | assumption | refine Below.drew ?_ | refine up_drewN ?_ _ | refine up_alloc ?_ _ | refine up_set ?_ _ _ (by first | exact Nat.le_refl _ | (simp; done) | (simp; omega) | omega) | refine up_trans ?_ (by assumption)))); have sw1 := hB.size; replace hW := up_trans hW hB; clear hB
  have uc : ∀ o, w1.cell? ⟨w.heap.size, o, none⟩ = #[.int .i64 0, .int .i64 0][o]? := (fun o => (hb.cell (p := ⟨w.heap.size, o, none⟩) (by simp <;> omega)).trans (by simp [go_sem])); have uf : ∀ o, w1.frozen? ⟨w.heap.size, o, none⟩ = false := (fun o => (hb.frozen (p := ⟨w.heap.size, o, none⟩) (by simp <;> omega)).trans (by simp [go_sem])); have uz : w.heap.size < w1.heap.size := (by have := hb.size; (try simp at this); omega); have uy := uz
  simp at hg
  have hV1 : VC w.heap.size w1 := ⟨0, 0, (hb.block w.heap.size (by simp)).trans (heap_alloc_new _ _)⟩
  clear hb h
  have hU : w.grownBy w1 (some g) := gb_below (World.grownBy.refl _ _) hW
  clear hW
  have hgz := hr.lt
  go_wp2_with fail
  refine (l20View_any _ _ _ _ _ _ hr (by omega)).mono ?_
  rintro e w2 ⟨t, k, rows, rfl, ⟨q, hq, hr2⟩, hb⟩
  have hW := hU
  have hV2 := hV1.grown hb (by omega)
  have hG : w1.grownBy w2 (some g) := (by (repeat (first | exact World.grownBy.refl _ _ | assumption | refine gb_drew ?_ | refine gb_drewN ?_ _ | refine gb_alloc ?_ _ | refine gb_here ?_ rfl _ | refine gb_set ?_ _ _ (by first | exact Nat.le_refl _ | (simp; done) | (simp; omega) | omega) | refine gb_trans ?_ (by assumption) | refine gb_below ?_ (by assumption)))); replace uc := gup_c hG uz (by omega) uc; replace uf := gup_f hG uz (by omega) uf; replace uz := Nat.lt_of_lt_of_le uz hG.size; have sw2 := hG.size; replace hW := gb_trans hW hG; clear hG
  clear hb hr hU
  go_wp2_with fail
  have yc : ∀ o, (w2.alloc (.cells #[.int .i64 t, .int .i64 k] 25)).cell? ⟨w2.heap.size, o, none⟩ = #[.int .i64 t, .int .i64 k][o]? := fun o => by simp [go_sem]
  have yz : w2.heap.size < (w2.alloc (.cells #[.int .i64 t, .int .i64 k] 25)).heap.size := by simp
  have hrw := hr2.alloc (.cells #[.int .i64 t, .int .i64 k] 25)
  have hV0 : VC w.heap.size (w2.alloc (.cells #[.int .i64 t, .int .i64 k] 25)) := hV2.alloc _
  clear hr2 uc uf hV1 hV2
  --EVER{spec.DrawScrollView;3;scr3}
  refine wp_region_ever (R := RS [g, w.heap.size]) (M := MV g m ys q w.heap.size) [tEq _ (.agg #[.int .i64 t, .int .i64 k]), tEq _ (.int .i64 rows), tEq _ (.pointer (some ⟨g, 0, none⟩)), tOf _ (isI (0) (10)), tOf _ (isI (-5) (5)), tRow _ (isI (-120) (121)) 4, tRow _ (isI (0) (3)) 8, tEq _ (.pointer (some ⟨g, 0, none⟩)), tOf _ (isI (0) (7)), tPtr _ (isI (0) (3)), tOf _ (isI (0) (3)), tPtr _ (isI (-120) (121)), tOf _ (isI (-120) (121)), tOf _ (fun _ => True), tEq _ (.int .i64 rows), tOf _ (isI (-120) (121))] (by kernel_rfl) (RS.refl _) (fun _ _ _ => RS.trans) (by kernel_rfl) (MV.drew ⟨⟨q, by omega, hrw⟩, hV0⟩) ?_ ?_
  · refine ⟨?_, ?_, ?_, ?_, ?_, ?_, ?_, ?_, ?_, ?_, ?_, ?_, ?_, ?_, ?_, ?_, trivial⟩
    · intro k' w' ρ hk' hR hM hF
      replace hk' : k' < 16 := hk'
      obtain ⟨f0, -⟩ := hF
      replace f0 : ρ (.tmp 6) = .pointer (some ⟨w2.heap.size, 0, none⟩) := f0
      refine good_of fun K hK => ?_
      have z0 := (hR.of_drew.cell yz (by simp; omega) 0).trans (yc 0); have z1 := (hR.of_drew.cell yz (by simp; omega) 1).trans (yc 1); go_simp; exact hK _ _ (RS.refl _ _) hM.next rfl
    · intro k' w' ρ hk' hR hM hF
      replace hk' : k' < 16 := hk'
      obtain ⟨f0, -⟩ := hF
      replace f0 : ρ (.tmp 7) = .int .i64 rows := f0
      exact ⟨RS.refl _ _, hM.next, f0⟩
    · intro k' w' ρ hk' hR hM hF
      replace hk' : k' < 16 := hk'
      obtain ⟨f0, -⟩ := hF
      replace f0 : ρ (.tmp 5) = .pointer (some ⟨g, 0, none⟩) := f0
      exact ⟨RS.refl _ _, hM.next, f0⟩
    · intro k' w' ρ hk' hR hM hF
      replace hk' : k' < 16 := hk'
      obtain ⟨f0, f1, f2, -⟩ := hF
      replace f0 : ρ (.func _) = .func (.func _) #[] #[] := f0
      replace f1 : ρ (.tmp 17) = .pointer (some ⟨g, 0, none⟩) := f1
      replace f2 : ρ (.const (.int .i64 11)) = .int .i64 11 := f2
      refine good_of fun K hK => ?_
      obtain ⟨⟨q', hq', hr'⟩, hV⟩ := hM; go_simp; refine (pick_any _ _ _ _ _ _ hr' (by omega)).mono ?_; rintro e w4 ⟨x, rfl, h1, -, hr4, hb⟩; have hx := h1 (by omega); exact ⟨_, rfl, hK _ _ ((RS.refl _ _).grown hb (by simp)) ⟨⟨q' + 1, by rw [Nat.mul_add]; omega, hr4⟩, hV.grown hb (by omega)⟩ ⟨x, rfl, by omega, by omega⟩⟩
    · intro k' w' ρ hk' hR hM hF
      replace hk' : k' < 16 := hk'
      obtain ⟨f0, f1, -⟩ := hF
      replace f1 : ρ (.const (.int .i64 5)) = .int .i64 5 := f1
      refine good_of fun K hK => ?_
      obtain ⟨x0, f0, lo0, hi0⟩ := f0; replace f0 : ρ (.tmp 18) = .int .i64 x0 := f0; have q4 : IntKind.i64.wrap (x0 - 5) = x0 - 5 := IntWalk.i64_in _ (by omega); go_simp; exact hK _ _ (RS.refl _ _) hM.next ⟨x0 - 5, rfl, by omega, by omega⟩
    · intro k' w' ρ hk' hR hM hF
      replace hk' : k' < 16 := hk'
      obtain ⟨f0, f1, f2, f3, -⟩ := hF
      replace f1 : ρ (.const (.int .i64 120)) = .int .i64 120 := f1
      replace f2 : ρ (.const (.int .i64 (-120))) = .int .i64 (-120) := f2
      replace f3 : ρ (.const (.int .i64 121)) = .int .i64 121 := f3
      obtain ⟨x0, f0, lo0, hi0⟩ := f0
      replace f0 : ρ (.tmp 19) = .int .i64 x0 := f0
      have bnew : w'.heap.size ∉ [g, w.heap.size] := (by have := hR.size; simp at this ⊢; omega)
      refine good_of fun K hK => ?_
      go_simp
      refine hK _ _ ((RS.refl _ _).alloc _) ((hM.alloc _).next) ⟨w'.heap.size, rfl, bnew, by simp, fun j hj => row_new w' _ _ _ ?_ j hj⟩
      intro x hx; simp only [List.mem_cons, List.not_mem_nil, or_false] at hx
      rcases hx with rfl | rfl | rfl | rfl
      · exact ⟨x0, rfl, by omega, by omega⟩
      · exact ⟨_, rfl, by omega, by omega⟩
      · exact ⟨_, rfl, by omega, by omega⟩
      · exact ⟨_, rfl, by omega, by omega⟩
    · intro k' w' ρ hk' hR hM hF
      replace hk' : k' < 16 := hk'
      obtain ⟨f0, f1, f2, f3, f4, f5, f6, f7, -⟩ := hF
      replace f0 : ρ (.const (.int .i64 0)) = .int .i64 0 := f0
      replace f1 : ρ (.const (.int .i64 0)) = .int .i64 0 := f1
      replace f2 : ρ (.const (.int .i64 0)) = .int .i64 0 := f2
      replace f3 : ρ (.const (.int .i64 0)) = .int .i64 0 := f3
      replace f4 : ρ (.const (.int .i64 0)) = .int .i64 0 := f4
      replace f5 : ρ (.const (.int .i64 1)) = .int .i64 1 := f5
      replace f6 : ρ (.const (.int .i64 2)) = .int .i64 2 := f6
      replace f7 : ρ (.const (.int .i64 3)) = .int .i64 3 := f7
      have bnew : w'.heap.size ∉ [g, w.heap.size] := (by have := hR.size; simp at this ⊢; omega)
      refine good_of fun K hK => ?_
      go_simp
      refine hK _ _ ((RS.refl _ _).alloc _) ((hM.alloc _).next) ⟨w'.heap.size, rfl, bnew, by simp, fun j hj => row_new w' _ _ _ ?_ j hj⟩
      intro x hx; simp only [List.mem_cons, List.not_mem_nil, or_false] at hx
      rcases hx with rfl | rfl | rfl | rfl | rfl | rfl | rfl | rfl
      · exact ⟨_, rfl, by omega, by omega⟩
      · exact ⟨_, rfl, by omega, by omega⟩
      · exact ⟨_, rfl, by omega, by omega⟩
      · exact ⟨_, rfl, by omega, by omega⟩
      · exact ⟨_, rfl, by omega, by omega⟩
      · exact ⟨_, rfl, by omega, by omega⟩
      · exact ⟨_, rfl, by omega, by omega⟩
      · exact ⟨_, rfl, by omega, by omega⟩
    · intro k' w' ρ hk' hR hM hF
      replace hk' : k' < 16 := hk'
      obtain ⟨f0, -⟩ := hF
      replace f0 : ρ (.tmp 5) = .pointer (some ⟨g, 0, none⟩) := f0
      exact ⟨RS.refl _ _, hM.next, f0⟩
    · intro k' w' ρ hk' hR hM hF
      replace hk' : k' < 16 := hk'
      obtain ⟨f0, f1, f2, -⟩ := hF
      replace f0 : ρ (.func _) = .func (.func _) #[] #[] := f0
      replace f1 : ρ (.tmp 22) = .pointer (some ⟨g, 0, none⟩) := f1
      replace f2 : ρ (.const (.int .i64 8)) = .int .i64 8 := f2
      refine good_of fun K hK => ?_
      obtain ⟨⟨q', hq', hr'⟩, hV⟩ := hM; go_simp; refine (pick_any _ _ _ _ _ _ hr' (by omega)).mono ?_; rintro e w4 ⟨x, rfl, h1, -, hr4, hb⟩; have hx := h1 (by omega); exact ⟨_, rfl, hK _ _ ((RS.refl _ _).grown hb (by simp)) ⟨⟨q' + 1, by rw [Nat.mul_add]; omega, hr4⟩, hV.grown hb (by omega)⟩ ⟨x, rfl, by omega, by omega⟩⟩
    · intro k' w' ρ hk' hR hM hF
      replace hk' : k' < 16 := hk'
      obtain ⟨f0, f1, -⟩ := hF
      obtain ⟨b0, f0, bn0, bz0, bc0⟩ := f0
      replace f0 : ρ (.tmp 21) = .slice (some ⟨b0, 0, none⟩) 8 8 := f0
      obtain ⟨x1, f1, lo1, hi1⟩ := f1
      replace f1 : ρ (.tmp 23) = .int .i64 x1 := f1
      obtain ⟨u, hu, he⟩ := bc0 x1.toNat (by omega)
      clear bc0
      have ix0 : 0 ≤ x1 := by omega
      have ix1 : x1 < 8 := by omega
      refine good_of fun K hK => ?_
      go_simp
      exact hK _ _ (RS.refl _ _) (hM.next) ⟨b0, _, rfl, bn0, bz0, u, hu, he⟩
    · intro k' w' ρ hk' hR hM hF
      replace hk' : k' < 16 := hk'
      obtain ⟨f0, -⟩ := hF
      obtain ⟨b0, o0, f0, bn0, bz0, u0, bc0, be0⟩ := f0
      replace f0 : ρ (.tmp 24) = .pointer (some ⟨b0, o0, none⟩) := f0
      refine good_of fun K hK => ?_
      go_simp
      exact hK _ _ (RS.refl _ _) (hM.next) be0
    · intro k' w' ρ hk' hR hM hF
      replace hk' : k' < 16 := hk'
      obtain ⟨f0, f1, -⟩ := hF
      obtain ⟨b0, f0, bn0, bz0, bc0⟩ := f0
      replace f0 : ρ (.tmp 20) = .slice (some ⟨b0, 0, none⟩) 4 4 := f0
      obtain ⟨x1, f1, lo1, hi1⟩ := f1
      replace f1 : ρ (.tmp 25) = .int .i64 x1 := f1
      obtain ⟨u, hu, he⟩ := bc0 x1.toNat (by omega)
      clear bc0
      have ix0 : 0 ≤ x1 := by omega
      have ix1 : x1 < 4 := by omega
      refine good_of fun K hK => ?_
      go_simp
      exact hK _ _ (RS.refl _ _) (hM.next) ⟨b0, _, rfl, bn0, bz0, u, hu, he⟩
    · intro k' w' ρ hk' hR hM hF
      replace hk' : k' < 16 := hk'
      obtain ⟨f0, -⟩ := hF
      obtain ⟨b0, o0, f0, bn0, bz0, u0, bc0, be0⟩ := f0
      replace f0 : ρ (.tmp 26) = .pointer (some ⟨b0, o0, none⟩) := f0
      refine good_of fun K hK => ?_
      go_simp
      exact hK _ _ (RS.refl _ _) (hM.next) be0
    · intro k' w' ρ hk' hR hM hF
      replace hk' : k' < 16 := hk'
      obtain ⟨f0, f1, -⟩ := hF
      replace f0 : ρ (.tmp 2) = .pointer (some ⟨w.heap.size, 0, none⟩) := f0
      replace f1 : ρ (.tmp 15) = .agg #[.int .i64 t, .int .i64 k] := f1
      refine good_of fun K hK => ?_
      obtain ⟨⟨q', hq', hr'⟩, hV⟩ := hM; obtain ⟨u0, u1, h0⟩ := hV.cells; have f00 := hV.fr 0; have f01 := hV.fr 1; go_simp; exact hK _ _ (((RS.refl _ _).set _ _ (by simp)).set _ _ (by simp)) ⟨⟨q', by rw [Nat.mul_add]; omega, vc_rdr (vc_rdr hr' hV (by omega) _ _) (hV.set0 _) (by omega) _ _⟩, (hV.set0 _).set1 _⟩ trivial
    · intro k' w' ρ hk' hR hM hF
      replace hk' : k' < 16 := hk'
      obtain ⟨f0, -⟩ := hF
      replace f0 : ρ (.tmp 16) = .int .i64 rows := f0
      exact ⟨RS.refl _ _, hM.next, f0⟩
    · intro k' w' ρ hk' hR hM hF
      replace hk' : k' < 16 := hk'
      obtain ⟨f0, -⟩ := hF
      exact ⟨RS.refl _ _, hM.next, f0⟩
  · intro w' hR hM
    rintro _ rfl
    rintro _ rfl
    rintro _ rfl
    rintro _ ⟨v3, rfl, lo3, hi3⟩
    rintro _ ⟨v4, rfl, lo4, hi4⟩
    rintro _ ⟨_, rfl, -, -, -⟩
    rintro _ ⟨_, rfl, -, -, -⟩
    rintro _ rfl
    rintro _ ⟨v8, rfl, lo8, hi8⟩
    rintro _ ⟨_, _, rfl, -, -, -⟩
    rintro _ ⟨v10, rfl, lo10, hi10⟩
    rintro _ ⟨_, _, rfl, -, -, -⟩
    rintro _ ⟨v12, rfl, lo12, hi12⟩
    rintro _ -
    rintro _ rfl
    rintro _ ⟨v15, rfl, lo15, hi15⟩
  --END
  --END
    obtain ⟨-, hV⟩ := hM
    obtain ⟨t1, k1, c0, c1⟩ := hV.cells
    clear hrw hV0 yc
    dsimp only [EndAll, Act.put]
    obtain ⟨w5, rfl⟩ : ∃ z, z = w' := ⟨_, rfl⟩
    go_wp2_with fail
    refine bodyPost_ret (v := .tuple #[.agg #[.int .i64 t1, .int .i64 k1], .int .i64 _, .int .i64 _]) (by simp [results, Try.results40, go_sem, c0, c1]; exact ⟨rfl, rfl⟩) rfl ⟨_, _, _, _, rfl, ?_⟩
    exact hR.of_drew.below_all (up_alloc (below_of_gb hW (by omega)) _) (by simp; omega)

end Go.Proofs.Ytiimlnefighlgaa
