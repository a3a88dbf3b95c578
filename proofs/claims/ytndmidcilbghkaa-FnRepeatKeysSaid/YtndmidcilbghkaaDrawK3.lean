/- What is proved here: contracts of DrawPressKey and DrawRepeatKeys. No condition but that the code is a slice of bytes. -/
import Derived.Test.YtndmidcilbghkaaDrawK2
namespace Go.Proofs.Ytndmidcilbghkaa
open Go.RowKit

/-- a block that holds a desk. -/
def DC (B : Nat) (w : World) : Prop := ∃ d : Dk, d.body.length ≤ 130 ∧ w.heap[B]? = some (.cells #[S d.body, .int .i64 d.place, .int .i64 d.want] 25 (0, 0))
theorem DC.lt {B : Nat} {w : World} (h : DC B w) : B < w.heap.size := by
  obtain ⟨d, _, h⟩ := h
  exact (Array.getElem?_eq_some_iff.1 h).1
theorem DC.up {B : Nat} {w w' : World} (h : DC B w) (hb : w'.heap[B]? = w.heap[B]?) : DC B w' := by
  obtain ⟨d, hd, h⟩ := h
  exact ⟨d, hd, hb.trans h⟩
theorem DC.grown {B g : Nat} {w w' : World} (h : DC B w) (hb : w.grownBy w' (some g)) (hn : B ≠ g) : DC B w' :=
  h.up (hb.block B h.lt (fun e => hn (by injection e)))
theorem DC.alloc {B : Nat} {w : World} (h : DC B w) (o : Obj) : DC B (w.alloc o) := by
  have := World.grownBy_alloc w o none
  exact h.up (this.block B h.lt (by simp))
theorem DC.cells {B : Nat} {w : World} (h : DC B w) : ∃ u0 u1 u2, w.cell? ⟨B, 0, none⟩ = some u0 ∧ w.cell? ⟨B, 1, none⟩ = some u1 ∧ w.cell? ⟨B, 2, none⟩ = some u2 := by
  obtain ⟨d, _, h⟩ := h
  exact ⟨_, _, _, cell_of_row w B 0 _ _ (0, 0) h, cell_of_row w B 1 _ _ (0, 0) h, cell_of_row w B 2 _ _ (0, 0) h⟩
theorem DC.is {B : Nat} {w : World} (h : DC B w) : ∃ d : Dk, d.body.length ≤ 130 ∧ w.cell? ⟨B, 0, none⟩ = some (S d.body) ∧ w.cell? ⟨B, 1, none⟩ = some (.int .i64 d.place) ∧ w.cell? ⟨B, 2, none⟩ = some (.int .i64 d.want) := by
  obtain ⟨d, hd, h⟩ := h
  exact ⟨d, hd, cell_of_row w B 0 _ _ (0, 0) h, cell_of_row w B 1 _ _ (0, 0) h, cell_of_row w B 2 _ _ (0, 0) h⟩
theorem DC.fr {B : Nat} {w : World} (h : DC B w) (o : Nat) : w.frozen? ⟨B, o, none⟩ = false := by
  obtain ⟨d, _, h⟩ := h
  exact frozen_of_row w B o _ _ h
theorem DC.set0 {B : Nat} {w : World} (h : DC B w) {s : List UInt8} (hs : s.length ≤ 130) : DC B (w.setCell ⟨B, 0, none⟩ (S s)) := by
  obtain ⟨d, hd, h⟩ := h
  exact ⟨⟨s, d.place, d.want⟩, hs, heap_setCell_same w B 0 _ _ _ h⟩
theorem DC.set1 {B : Nat} {w : World} (h : DC B w) (x : Int) : DC B (w.setCell ⟨B, 1, none⟩ (.int .i64 x)) := by
  obtain ⟨d, hd, h⟩ := h
  exact ⟨⟨d.body, x, d.want⟩, hd, heap_setCell_same w B 1 _ _ _ h⟩
theorem DC.set2 {B : Nat} {w : World} (h : DC B w) (x : Int) : DC B (w.setCell ⟨B, 2, none⟩ (.int .i64 x)) := by
  obtain ⟨d, hd, h⟩ := h
  exact ⟨⟨d.body, d.place, x⟩, hd, heap_setCell_same w B 2 _ _ _ h⟩
theorem dc_rdr {w : World} {g n p B : Nat} {zs : List Int} (hr : Rdr w g n zs p) (hB : DC B w) (hn : B ≠ g) (i : Nat) (u : Value) : Rdr (w.setCell ⟨B, i, none⟩ u) g n zs p := by
  obtain ⟨v, h1, h2, h3, h4, h5, A, c, rfl, h6, h7, h8⟩ := hr
  refine ⟨_, (heap_setCell_other w ⟨B, i, none⟩ g u (fun e => hn e.symm)).trans h1, h2, h3, h4, h5, A, c, rfl, h6, h7, fun h0 => ?_⟩
  obtain ⟨b, o, rfl, hb, hc⟩ := h8 h0
  refine ⟨b, o, rfl, hb, fun j z hz => ?_⟩
  have hne : b ≠ B := by
    rintro rfl
    obtain ⟨d, _, hB⟩ := hB
    have := hc j z hz
    rw [cell_of_row w b (o + j) _ _ (0, 0) hB] at this
    rcases (show o + j = 0 ∨ o + j = 1 ∨ o + j = 2 ∨ 3 ≤ o + j by omega) with h | h | h | h
    · rw [h] at this; simp at this
    · rw [h] at this; simp at this
    · rw [h] at this; simp at this
    · rw [Array.getElem?_eq_none (by simpa using h)] at this; cases this
  exact (World.cell?_of_block (a := ⟨b, o + j, none⟩) (heap_setCell_other w ⟨B, i, none⟩ b u hne)).trans (hc j z hz)
def MD (g n : Nat) (zs : List Int) (p B k : Nat) (w : World) : Prop := MR g n zs p 2 k w ∧ DC B w
theorem MD.next {g n : Nat} {zs : List Int} {p B k : Nat} {w : World} (h : MD g n zs p B k w) : MD g n zs p B (k + 1) w := ⟨h.1.next, h.2⟩
theorem MD.alloc {g n : Nat} {zs : List Int} {p B k : Nat} {w : World} (h : MD g n zs p B k w) (o : Obj) : MD g n zs p B k (w.alloc o) := ⟨h.1.alloc o, h.2.alloc o⟩
theorem MD.drew {g n : Nat} {zs : List Int} {p B k : Nat} {w : World} (h : MD g n zs p B k w) : MD g n zs p B k w.drew := ⟨h.1.drew, h.2⟩
theorem MD.put {g n : Nat} {zs : List Int} {p B k : Nat} {w : World} {d : Dk} (h : MD g n zs p B k w) (hd : d.body.length ≤ 130) (hn : B ≠ g) :
    MD g n zs p B (k + 1) (((w.setCell ⟨B, 0, none⟩ (S d.body)).setCell ⟨B, 1, none⟩ (.int .i64 d.place)).setCell ⟨B, 2, none⟩ (.int .i64 d.want)) := by
  obtain ⟨⟨q, hq, hr⟩, hV⟩ := h
  exact ⟨⟨q, by rw [Nat.mul_add]; omega, dc_rdr (dc_rdr (dc_rdr hr hV hn _ _) (hV.set0 hd) hn _ _) ((hV.set0 hd).set1 _) hn _ _⟩, ((hV.set0 hd).set1 _).set2 _⟩
def isB (u : Value) : Prop := ∃ x : Int, u = .int .u8 x ∧ 0 ≤ x ∧ x ≤ 255
theorem RS.below_all {L : List Nat} {w a b : World} (h : RS L a b) (hW : Below w.heap.size w a) (hL : ∀ x ∈ L, w.heap.size ≤ x) : Below w.heap.size w b :=
  ⟨h.os.trans hW.os, h.tape.trans hW.tape, h.output.trans hW.output, Nat.le_trans hW.size h.size, fun i hi => (h.block i (Nat.lt_of_lt_of_le hi hW.size) (fun hm => by have := hL i hm; omega)).trans (hW.block i hi)⟩

def DrawKeyPost (w : World) (e : Ending) (w' : World) : Prop :=
  ∃ (d : Dk) (c : Int), e = .returned (.tuple #[dkV d, .int .u8 c]) ∧ d.body.length ≤ 130 ∧ 0 ≤ c ∧ c ≤ 255 ∧ Below w.heap.size w w'
def DrawRepPost (w : World) (e : Ending) (w' : World) : Prop :=
  ∃ (d : Dk) (s : List UInt8) (t : Int), e = .returned (.tuple #[dkV d, S s, .int .i64 t]) ∧ d.body.length ≤ 130 ∧ s.length ≤ 61 ∧ -1 ≤ t ∧ t ≤ 21 ∧ Below w.heap.size w w'

set_option maxRecDepth 100000 in
set_option maxHeartbeats 1000000 in
theorem drawPressKey_any (v : Value) (n : Nat) (zs : List Int) (w : World) (h : Bytes w w.heap.size v n zs) :
    Calls Try.prog 20 #[v] w (DrawKeyPost w) := by
  have hW := Below.refl w.heap.size w
  go_enter Try.func20, Try.ntmps20
  go_wp2_with fail
  refine (open_any v n zs _ (h.to (by (repeat (first | exact Below.refl _ _ | assumption | refine Below.drew ?_ | refine up_drewN ?_ _ | refine up_alloc ?_ _ | refine up_set ?_ _ _ (by first | exact Nat.le_refl _ | (simp; done) | (simp; omega) | omega) | refine up_trans ?_ (by assumption)))))).mono ?_
  rintro e w1 ⟨g, m, ys, rfl, hr, hb, hg⟩
  have hB : Below w.heap.size w w1 := (by (repeat (first | exact Below.refl _ _ | assumption | refine Below.drew ?_ | refine up_drewN ?_ _ | refine up_alloc ?_ _ | refine up_set ?_ _ _ (by first | exact Nat.le_refl _ | (simp; done) | (simp; omega) | omega) | refine up_trans ?_ (by assumption)))); have sw1 := hB.size; replace hW := up_trans hW hB; clear hB
  simp at hg
  have hV1 : DC w.heap.size w1 := ⟨⟨[], 0, 0⟩, by decide, (hb.block w.heap.size (by simp)).trans (heap_alloc_new _ _)⟩
  clear hb h
  have hgz := hr.lt
  go_wp2_with fail
  refine (l20Desk_any _ _ _ _ _ _ hr (by omega)).mono ?_
  rintro e w2 ⟨d, rfl, hd, ⟨q, hq, hr2⟩, hb⟩
  replace hW : w.grownBy w2 (some g) := gb_trans (gb_below (World.grownBy.refl _ _) hW) hb
  have hV2 := hV1.grown hb (by omega)
  have sw2 := hb.size
  clear hb hr hV1
  unfold dkV
  go_wp2_with fail
  have yc : ∀ o, (w2.alloc (.cells #[S d.body, .int .i64 d.place, .int .i64 d.want] 25)).cell? ⟨w2.heap.size, o, none⟩ = #[S d.body, .int .i64 d.place, .int .i64 d.want][o]? := fun o => by simp [go_sem]
  have yz : w2.heap.size < (w2.alloc (.cells #[S d.body, .int .i64 d.place, .int .i64 d.want] 25)).heap.size := by simp
  have hrw := hr2.alloc (.cells #[S d.body, .int .i64 d.place, .int .i64 d.want] 25)
  have hV0 : DC w.heap.size (w2.alloc (.cells #[S d.body, .int .i64 d.place, .int .i64 d.want] 25)) := hV2.alloc _
  have hW2 := Lib.hid (below_of_gb hW (by omega))
  clear hr2 hV2 hW
  --EVER{spec.DrawPressKey;3;dkey3}
  refine wp_region_ever (R := RS [g, w.heap.size]) (M := MD g m ys q w.heap.size) [tEq _ (.agg #[S d.body, .int .i64 d.place, .int .i64 d.want]), tRow _ (isB) 10, tEq _ (.pointer (some ⟨g, 0, none⟩)), tOf _ (isI (0) (9)), tPtr _ (isB), tOf _ (isB), tOf _ (fun _ => True), tOf _ (isB)] (by kernel_rfl) (RS.refl _) (fun _ _ _ => RS.trans) (by kernel_rfl) (MD.drew ⟨⟨q, by omega, hrw⟩, hV0⟩) ?_ ?_
  · refine ⟨?_, ?_, ?_, ?_, ?_, ?_, ?_, ?_, trivial⟩
    · intro k' w' ρ hk' hR hM hF
      replace hk' : k' < 8 := hk'
      obtain ⟨f0, -⟩ := hF
      replace f0 : ρ (.tmp 5) = .pointer (some ⟨w2.heap.size, 0, none⟩) := f0
      refine good_of fun K hK => ?_
      have z0 := (hR.of_drew.cell yz (by simp; omega) 0).trans (yc 0); have z1 := (hR.of_drew.cell yz (by simp; omega) 1).trans (yc 1); have z2 := (hR.of_drew.cell yz (by simp; omega) 2).trans (yc 2); go_simp; exact hK _ _ (RS.refl _ _) (hM.next) rfl
    · intro k' w' ρ hk' hR hM hF
      replace hk' : k' < 8 := hk'
      obtain ⟨f0, f1, f2, f3, f4, f5, f6, f7, f8, f9, -⟩ := hF
      replace f0 : ρ (.const (.int .u8 97)) = .int .u8 97 := f0
      replace f1 : ρ (.const (.int .u8 32)) = .int .u8 32 := f1
      replace f2 : ρ (.const (.int .u8 60)) = .int .u8 60 := f2
      replace f3 : ρ (.const (.int .u8 62)) = .int .u8 62 := f3
      replace f4 : ρ (.const (.int .u8 94)) = .int .u8 94 := f4
      replace f5 : ρ (.const (.int .u8 95)) = .int .u8 95 := f5
      replace f6 : ρ (.const (.int .u8 35)) = .int .u8 35 := f6
      replace f7 : ρ (.const (.int .u8 64)) = .int .u8 64 := f7
      replace f8 : ρ (.const (.int .u8 200)) = .int .u8 200 := f8
      replace f9 : ρ (.const (.int .u8 10)) = .int .u8 10 := f9
      have bnew : w'.heap.size ∉ [g, w.heap.size] := (by have := hR.size; simp at this ⊢; omega)
      refine good_of fun K hK => ?_
      go_simp
      refine hK _ _ ((RS.refl _ _).alloc _) ((hM.alloc _).next) ⟨w'.heap.size, rfl, bnew, by simp, fun j hj => row_new w' _ _ _ ?_ j hj⟩
      intro x hx; simp only [List.mem_cons, List.not_mem_nil, or_false] at hx
      rcases hx with rfl | rfl | rfl | rfl | rfl | rfl | rfl | rfl | rfl | rfl
      · exact ⟨_, rfl, by omega, by omega⟩
      · exact ⟨_, rfl, by omega, by omega⟩
      · exact ⟨_, rfl, by omega, by omega⟩
      · exact ⟨_, rfl, by omega, by omega⟩
      · exact ⟨_, rfl, by omega, by omega⟩
      · exact ⟨_, rfl, by omega, by omega⟩
      · exact ⟨_, rfl, by omega, by omega⟩
      · exact ⟨_, rfl, by omega, by omega⟩
      · exact ⟨_, rfl, by omega, by omega⟩
      · exact ⟨_, rfl, by omega, by omega⟩
    · intro k' w' ρ hk' hR hM hF
      replace hk' : k' < 8 := hk'
      obtain ⟨f0, -⟩ := hF
      replace f0 : ρ (.tmp 4) = .pointer (some ⟨g, 0, none⟩) := f0
      exact ⟨RS.refl _ _, hM.next, f0⟩
    · intro k' w' ρ hk' hR hM hF
      replace hk' : k' < 8 := hk'
      obtain ⟨f0, f1, f2, -⟩ := hF
      replace f0 : ρ (.func _) = .func (.func _) #[] #[] := f0
      replace f1 : ρ (.tmp 12) = .pointer (some ⟨g, 0, none⟩) := f1
      replace f2 : ρ (.const (.int .i64 10)) = .int .i64 10 := f2
      refine good_of fun K hK => ?_
      obtain ⟨⟨q', hq', hr'⟩, hV⟩ := hM; go_simp; refine (pick_any _ _ _ _ _ _ hr' (by omega)).mono ?_; rintro e w4 ⟨x, rfl, h1, -, hr4, hb⟩; have hx := h1 (by omega); exact ⟨_, rfl, hK _ _ ((RS.refl _ _).grown hb (by simp)) ⟨⟨q' + 1, by rw [Nat.mul_add]; omega, hr4⟩, hV.grown hb (by omega)⟩ ⟨x, rfl, by omega, by omega⟩⟩
    · intro k' w' ρ hk' hR hM hF
      replace hk' : k' < 8 := hk'
      obtain ⟨f0, f1, -⟩ := hF
      obtain ⟨b0, f0, bn0, bz0, bc0⟩ := f0
      replace f0 : ρ (.tmp 11) = .slice (some ⟨b0, 0, none⟩) 10 10 := f0
      obtain ⟨x1, f1, lo1, hi1⟩ := f1
      replace f1 : ρ (.tmp 13) = .int .i64 x1 := f1
      obtain ⟨u, hu, he⟩ := bc0 x1.toNat (by omega)
      clear bc0
      have ix0 : 0 ≤ x1 := by omega
      have ix1 : x1 < 10 := by omega
      refine good_of fun K hK => ?_
      go_simp
      exact hK _ _ (RS.refl _ _) (hM.next) ⟨b0, _, rfl, bn0, bz0, u, hu, he⟩
    · intro k' w' ρ hk' hR hM hF
      replace hk' : k' < 8 := hk'
      obtain ⟨f0, -⟩ := hF
      obtain ⟨b0, o0, f0, bn0, bz0, u0, bc0, be0⟩ := f0
      replace f0 : ρ (.tmp 14) = .pointer (some ⟨b0, o0, none⟩) := f0
      refine good_of fun K hK => ?_
      go_simp
      exact hK _ _ (RS.refl _ _) (hM.next) be0
    · intro k' w' ρ hk' hR hM hF
      replace hk' : k' < 8 := hk'
      obtain ⟨f0, f1, -⟩ := hF
      replace f0 : ρ (.tmp 2) = .pointer (some ⟨w.heap.size, 0, none⟩) := f0
      replace f1 : ρ (.tmp 10) = .agg #[S d.body, .int .i64 d.place, .int .i64 d.want] := f1
      refine good_of fun K hK => ?_
      have hP := hM.put hd (by omega); obtain ⟨u0, u1, u2, h0, h1, h2⟩ := hM.2.cells; have f00 := hM.2.fr; go_simp; exact hK _ _ ((((RS.refl _ _).set _ _ (by simp)).set _ _ (by simp)).set _ _ (by simp)) hP trivial
    · intro k' w' ρ hk' hR hM hF
      replace hk' : k' < 8 := hk'
      obtain ⟨f0, -⟩ := hF
      exact ⟨RS.refl _ _, hM.next, f0⟩
  · intro w' hR hM
    rintro _ rfl
    rintro _ ⟨_, rfl, -, -, -⟩
    rintro _ rfl
    rintro _ ⟨v3, rfl, lo3, hi3⟩
    rintro _ ⟨_, _, rfl, -, -, -⟩
    rintro _ ⟨v5, rfl, lo5, hi5⟩
    rintro _ -
    rintro _ ⟨v7, rfl, lo7, hi7⟩
  --END
  --END
    dsimp only [EndAll, Act.put]
    obtain ⟨w5, rfl⟩ : ∃ z, z = w' := ⟨_, rfl⟩
    have hF : Below w.heap.size w w5 := hR.of_drew.below_all (up_alloc hW2.out _) (by intro x hx; simp only [List.mem_cons, List.not_mem_nil, or_false] at hx; rcases hx with rfl | rfl <;> omega)
    obtain ⟨d', hd', c0, c1, c2⟩ := hM.2.is
    clear hR hM hW2 hV0 hrw
    go_wp2_with fail
    refine bodyPost_ret (v := .tuple #[.agg #[S d'.body, .int .i64 d'.place, .int .i64 d'.want], .int .u8 v7]) (by simp [results, Try.results20, go_sem, c0, c1, c2]) rfl ⟨d', v7, rfl, hd', lo7, hi7, hF⟩

set_option maxRecDepth 100000 in
set_option maxHeartbeats 1000000 in
theorem drawRepeatKeys_any (v : Value) (n : Nat) (zs : List Int) (w : World) (h : Bytes w w.heap.size v n zs) :
    Calls Try.prog 24 #[v] w (DrawRepPost w) := by
  have hW := Below.refl w.heap.size w
  go_enter Try.func24, Try.ntmps24
  go_wp2_with fail
  refine (open_any v n zs _ (h.to (by (repeat (first | exact Below.refl _ _ | assumption | refine Below.drew ?_ | refine up_drewN ?_ _ | refine up_alloc ?_ _ | refine up_set ?_ _ _ (by first | exact Nat.le_refl _ | (simp; done) | (simp; omega) | omega) | refine up_trans ?_ (by assumption)))))).mono ?_
  rintro e w1 ⟨g, m, ys, rfl, hr, hb, hg⟩
  have hB : Below w.heap.size w w1 := (by (repeat (first | exact Below.refl _ _ | assumption | refine Below.drew ?_ | refine up_drewN ?_ _ | refine up_alloc ?_ _ | refine up_set ?_ _ _ (by first | exact Nat.le_refl _ | (simp; done) | (simp; omega) | omega) | refine up_trans ?_ (by assumption)))); have sw1 := hB.size; replace hW := up_trans hW hB; clear hB
  simp at hg
  have hV1 : DC w.heap.size w1 := ⟨⟨[], 0, 0⟩, by decide, (hb.block w.heap.size (by simp)).trans (heap_alloc_new _ _)⟩
  clear hb h
  have hgz := hr.lt
  go_wp2_with fail
  refine (l20Desk_any _ _ _ _ _ _ hr (by omega)).mono ?_
  rintro e w2 ⟨d, rfl, hd, ⟨q, hq, hr2⟩, hb⟩
  replace hW : w.grownBy w2 (some g) := gb_trans (gb_below (World.grownBy.refl _ _) hW) hb
  have hV2 := hV1.grown hb (by omega)
  have sw2 := hb.size
  clear hb hr hV1
  unfold dkV
  go_wp2_with fail
  refine (l20Keys_any _ _ _ _ _ (hr2.up (by (repeat (first | exact Below.refl _ _ | assumption | refine Below.drew ?_ | refine up_drewN ?_ _ | refine up_alloc ?_ _ | refine up_set ?_ _ _ (by first | exact Nat.le_refl _ | (simp; done) | (simp; omega) | omega) | refine up_trans ?_ (by assumption))))) (by omega)).mono ?_
  rintro e w3 ⟨s, rfl, hs, ⟨q3, hq3, hrw⟩, hb⟩
  have yc : ∀ o, w3.cell? ⟨w2.heap.size, o, none⟩ = #[S d.body, .int .i64 d.place, .int .i64 d.want][o]? := gup_c hb (by simp) (by omega) (fun o => by simp [go_sem])
  have yz : w2.heap.size < w3.heap.size := (by have := hb.size; (try simp at this); omega)
  have hV0 : DC w.heap.size w3 := (hV2.alloc _).grown hb (by omega)
  have hW2 := Lib.hid (below_of_gb (gb_trans (gb_alloc hW _) hb) (by omega))
  obtain ⟨q, hq4⟩ : ∃ x, x = q3 := ⟨_, rfl⟩
  rw [← hq4] at hrw hq3
  clear hq4 q3
  clear hb hr2 hV2 hW
  go_wp2_with fail
  --EVER{spec.DrawRepeatKeys;4;dkey4}
  refine wp_region_ever (R := RS [g, w.heap.size]) (M := MD g m ys q w.heap.size) [tEq _ (.agg #[S d.body, .int .i64 d.place, .int .i64 d.want]), tEq _ (S s), tEq _ (.pointer (some ⟨g, 0, none⟩)), tOf _ (isI (0) (5)), tRow _ (isI (-1) (21)) 4, tRow _ (isI (0) (3)) 7, tEq _ (.pointer (some ⟨g, 0, none⟩)), tOf _ (isI (0) (6)), tPtr _ (isI (0) (3)), tOf _ (isI (0) (3)), tPtr _ (isI (-1) (21)), tOf _ (isI (-1) (21)), tOf _ (fun _ => True), tEq _ (S s), tOf _ (isI (-1) (21))] (by kernel_rfl) (RS.refl _) (fun _ _ _ => RS.trans) (by kernel_rfl) (MD.drew ⟨⟨q, by omega, hrw⟩, hV0⟩) ?_ ?_
  · refine ⟨?_, ?_, ?_, ?_, ?_, ?_, ?_, ?_, ?_, ?_, ?_, ?_, ?_, ?_, ?_, trivial⟩
    · intro k' w' ρ hk' hR hM hF
      replace hk' : k' < 15 := hk'
      obtain ⟨f0, -⟩ := hF
      replace f0 : ρ (.tmp 6) = .pointer (some ⟨w2.heap.size, 0, none⟩) := f0
      refine good_of fun K hK => ?_
      have z0 := (hR.of_drew.cell yz (by simp; omega) 0).trans (yc 0); have z1 := (hR.of_drew.cell yz (by simp; omega) 1).trans (yc 1); have z2 := (hR.of_drew.cell yz (by simp; omega) 2).trans (yc 2); go_simp; exact hK _ _ (RS.refl _ _) (hM.next) rfl
    · intro k' w' ρ hk' hR hM hF
      replace hk' : k' < 15 := hk'
      obtain ⟨f0, -⟩ := hF
      replace f0 : ρ (.tmp 7) = S s := f0
      exact ⟨RS.refl _ _, hM.next, f0⟩
    · intro k' w' ρ hk' hR hM hF
      replace hk' : k' < 15 := hk'
      obtain ⟨f0, -⟩ := hF
      replace f0 : ρ (.tmp 5) = .pointer (some ⟨g, 0, none⟩) := f0
      exact ⟨RS.refl _ _, hM.next, f0⟩
    · intro k' w' ρ hk' hR hM hF
      replace hk' : k' < 15 := hk'
      obtain ⟨f0, f1, f2, -⟩ := hF
      replace f0 : ρ (.func _) = .func (.func _) #[] #[] := f0
      replace f1 : ρ (.tmp 16) = .pointer (some ⟨g, 0, none⟩) := f1
      replace f2 : ρ (.const (.int .i64 6)) = .int .i64 6 := f2
      refine good_of fun K hK => ?_
      obtain ⟨⟨q', hq', hr'⟩, hV⟩ := hM; go_simp; refine (pick_any _ _ _ _ _ _ hr' (by omega)).mono ?_; rintro e w4 ⟨x, rfl, h1, -, hr4, hb⟩; have hx := h1 (by omega); exact ⟨_, rfl, hK _ _ ((RS.refl _ _).grown hb (by simp)) ⟨⟨q' + 1, by rw [Nat.mul_add]; omega, hr4⟩, hV.grown hb (by omega)⟩ ⟨x, rfl, by omega, by omega⟩⟩
    · intro k' w' ρ hk' hR hM hF
      replace hk' : k' < 15 := hk'
      obtain ⟨f0, f1, f2, f3, -⟩ := hF
      replace f1 : ρ (.const (.int .i64 20)) = .int .i64 20 := f1
      replace f2 : ρ (.const (.int .i64 (-1))) = .int .i64 (-1) := f2
      replace f3 : ρ (.const (.int .i64 21)) = .int .i64 21 := f3
      obtain ⟨x0, f0, lo0, hi0⟩ := f0
      replace f0 : ρ (.tmp 17) = .int .i64 x0 := f0
      have bnew : w'.heap.size ∉ [g, w.heap.size] := (by have := hR.size; simp at this ⊢; omega)
      refine good_of fun K hK => ?_
      go_simp
      refine hK _ _ ((RS.refl _ _).alloc _) ((hM.alloc _).next) ⟨w'.heap.size, rfl, bnew, by simp, fun j hj => row_new w' _ _ _ ?_ j hj⟩
      intro x hx; simp only [List.mem_cons, List.not_mem_nil, or_false] at hx
      rcases hx with rfl | rfl | rfl | rfl
      · exact ⟨x0, rfl, by omega, by omega⟩
      · exact ⟨_, rfl, by omega, by omega⟩
      · exact ⟨_, rfl, by omega, by omega⟩
      · exact ⟨_, rfl, by omega, by omega⟩
    · intro k' w' ρ hk' hR hM hF
      replace hk' : k' < 15 := hk'
      obtain ⟨f0, f1, f2, f3, f4, f5, f6, -⟩ := hF
      replace f0 : ρ (.const (.int .i64 0)) = .int .i64 0 := f0
      replace f1 : ρ (.const (.int .i64 0)) = .int .i64 0 := f1
      replace f2 : ρ (.const (.int .i64 0)) = .int .i64 0 := f2
      replace f3 : ρ (.const (.int .i64 0)) = .int .i64 0 := f3
      replace f4 : ρ (.const (.int .i64 1)) = .int .i64 1 := f4
      replace f5 : ρ (.const (.int .i64 2)) = .int .i64 2 := f5
      replace f6 : ρ (.const (.int .i64 3)) = .int .i64 3 := f6
      have bnew : w'.heap.size ∉ [g, w.heap.size] := (by have := hR.size; simp at this ⊢; omega)
      refine good_of fun K hK => ?_
      go_simp
      refine hK _ _ ((RS.refl _ _).alloc _) ((hM.alloc _).next) ⟨w'.heap.size, rfl, bnew, by simp, fun j hj => row_new w' _ _ _ ?_ j hj⟩
      intro x hx; simp only [List.mem_cons, List.not_mem_nil, or_false] at hx
      rcases hx with rfl | rfl | rfl | rfl | rfl | rfl | rfl
      · exact ⟨_, rfl, by omega, by omega⟩
      · exact ⟨_, rfl, by omega, by omega⟩
      · exact ⟨_, rfl, by omega, by omega⟩
      · exact ⟨_, rfl, by omega, by omega⟩
      · exact ⟨_, rfl, by omega, by omega⟩
      · exact ⟨_, rfl, by omega, by omega⟩
      · exact ⟨_, rfl, by omega, by omega⟩
    · intro k' w' ρ hk' hR hM hF
      replace hk' : k' < 15 := hk'
      obtain ⟨f0, -⟩ := hF
      replace f0 : ρ (.tmp 5) = .pointer (some ⟨g, 0, none⟩) := f0
      exact ⟨RS.refl _ _, hM.next, f0⟩
    · intro k' w' ρ hk' hR hM hF
      replace hk' : k' < 15 := hk'
      obtain ⟨f0, f1, f2, -⟩ := hF
      replace f0 : ρ (.func _) = .func (.func _) #[] #[] := f0
      replace f1 : ρ (.tmp 20) = .pointer (some ⟨g, 0, none⟩) := f1
      replace f2 : ρ (.const (.int .i64 7)) = .int .i64 7 := f2
      refine good_of fun K hK => ?_
      obtain ⟨⟨q', hq', hr'⟩, hV⟩ := hM; go_simp; refine (pick_any _ _ _ _ _ _ hr' (by omega)).mono ?_; rintro e w4 ⟨x, rfl, h1, -, hr4, hb⟩; have hx := h1 (by omega); exact ⟨_, rfl, hK _ _ ((RS.refl _ _).grown hb (by simp)) ⟨⟨q' + 1, by rw [Nat.mul_add]; omega, hr4⟩, hV.grown hb (by omega)⟩ ⟨x, rfl, by omega, by omega⟩⟩
    · intro k' w' ρ hk' hR hM hF
      replace hk' : k' < 15 := hk'
      obtain ⟨f0, f1, -⟩ := hF
      obtain ⟨b0, f0, bn0, bz0, bc0⟩ := f0
      replace f0 : ρ (.tmp 19) = .slice (some ⟨b0, 0, none⟩) 7 7 := f0
      obtain ⟨x1, f1, lo1, hi1⟩ := f1
      replace f1 : ρ (.tmp 21) = .int .i64 x1 := f1
      obtain ⟨u, hu, he⟩ := bc0 x1.toNat (by omega)
      clear bc0
      have ix0 : 0 ≤ x1 := by omega
      have ix1 : x1 < 7 := by omega
      refine good_of fun K hK => ?_
      go_simp
      exact hK _ _ (RS.refl _ _) (hM.next) ⟨b0, _, rfl, bn0, bz0, u, hu, he⟩
    · intro k' w' ρ hk' hR hM hF
      replace hk' : k' < 15 := hk'
      obtain ⟨f0, -⟩ := hF
      obtain ⟨b0, o0, f0, bn0, bz0, u0, bc0, be0⟩ := f0
      replace f0 : ρ (.tmp 22) = .pointer (some ⟨b0, o0, none⟩) := f0
      refine good_of fun K hK => ?_
      go_simp
      exact hK _ _ (RS.refl _ _) (hM.next) be0
    · intro k' w' ρ hk' hR hM hF
      replace hk' : k' < 15 := hk'
      obtain ⟨f0, f1, -⟩ := hF
      obtain ⟨b0, f0, bn0, bz0, bc0⟩ := f0
      replace f0 : ρ (.tmp 18) = .slice (some ⟨b0, 0, none⟩) 4 4 := f0
      obtain ⟨x1, f1, lo1, hi1⟩ := f1
      replace f1 : ρ (.tmp 23) = .int .i64 x1 := f1
      obtain ⟨u, hu, he⟩ := bc0 x1.toNat (by omega)
      clear bc0
      have ix0 : 0 ≤ x1 := by omega
      have ix1 : x1 < 4 := by omega
      refine good_of fun K hK => ?_
      go_simp
      exact hK _ _ (RS.refl _ _) (hM.next) ⟨b0, _, rfl, bn0, bz0, u, hu, he⟩
    · intro k' w' ρ hk' hR hM hF
      replace hk' : k' < 15 := hk'
      obtain ⟨f0, -⟩ := hF
      obtain ⟨b0, o0, f0, bn0, bz0, u0, bc0, be0⟩ := f0
      replace f0 : ρ (.tmp 24) = .pointer (some ⟨b0, o0, none⟩) := f0
      refine good_of fun K hK => ?_
      go_simp
      exact hK _ _ (RS.refl _ _) (hM.next) be0
    · intro k' w' ρ hk' hR hM hF
      replace hk' : k' < 15 := hk'
      obtain ⟨f0, f1, -⟩ := hF
      replace f0 : ρ (.tmp 2) = .pointer (some ⟨w.heap.size, 0, none⟩) := f0
      replace f1 : ρ (.tmp 14) = .agg #[S d.body, .int .i64 d.place, .int .i64 d.want] := f1
      refine good_of fun K hK => ?_
      have hP := hM.put hd (by omega); obtain ⟨u0, u1, u2, h0, h1, h2⟩ := hM.2.cells; have f00 := hM.2.fr; go_simp; exact hK _ _ ((((RS.refl _ _).set _ _ (by simp)).set _ _ (by simp)).set _ _ (by simp)) hP trivial
    · intro k' w' ρ hk' hR hM hF
      replace hk' : k' < 15 := hk'
      obtain ⟨f0, -⟩ := hF
      replace f0 : ρ (.tmp 15) = S s := f0
      exact ⟨RS.refl _ _, hM.next, f0⟩
    · intro k' w' ρ hk' hR hM hF
      replace hk' : k' < 15 := hk'
      obtain ⟨f0, -⟩ := hF
      exact ⟨RS.refl _ _, hM.next, f0⟩
  · intro w' hR hM
    rintro _ rfl
    rintro _ rfl
    rintro _ rfl
    rintro _ ⟨v3, rfl, lo3, hi3⟩
    rintro _ ⟨_, rfl, -, -, -⟩
    rintro _ ⟨_, rfl, -, -, -⟩
    rintro _ rfl
    rintro _ ⟨v7, rfl, lo7, hi7⟩
    rintro _ ⟨_, _, rfl, -, -, -⟩
    rintro _ ⟨v9, rfl, lo9, hi9⟩
    rintro _ ⟨_, _, rfl, -, -, -⟩
    rintro _ ⟨v11, rfl, lo11, hi11⟩
    rintro _ -
    rintro _ rfl
    rintro _ ⟨v14, rfl, lo14, hi14⟩
  --END
  --END
    dsimp only [EndAll, Act.put]
    obtain ⟨w5, rfl⟩ : ∃ z, z = w' := ⟨_, rfl⟩
    have hF : Below w.heap.size w w5 := hR.of_drew.below_all hW2.out (by intro x hx; simp only [List.mem_cons, List.not_mem_nil, or_false] at hx; rcases hx with rfl | rfl <;> omega)
    obtain ⟨d', hd', c0, c1, c2⟩ := hM.2.is
    clear hR hM hW2 hV0 hrw
    go_wp2_with fail
    refine bodyPost_ret (v := .tuple #[.agg #[S d'.body, .int .i64 d'.place, .int .i64 d'.want], S s, .int .i64 v14]) (by simp [results, Try.results24, go_sem, c0, c1, c2]) rfl ⟨d', s, v14, rfl, hd', by omega, lo14, hi14, hF⟩

end Go.Proofs.Ytndmidcilbghkaa
