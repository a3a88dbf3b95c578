/- What is proved here: contracts of the draws of histories. No condition but that the code is a slice of bytes. -/
import Derived.Test.YtjcdklkdpcncgaaL20H
namespace Go.Proofs.Ytjcdklkdpcncgaa
open Go.RowKit
set_option linter.unusedVariables false

/-- what the draws give: some history and some text, both small. -/
def DrawHPost (w : World) (e : Ending) (w' : World) : Prop := ∃ (v : Value) (ms : List Mo) (a : Int) (s : List UInt8), e = .returned (.tuple #[.agg #[v, .int .i64 a], S s]) ∧ RdM w' v ms ∧ ms.length ≤ 30 ∧ s.length ≤ 130 ∧ Below w.heap.size w w'
def DrawHToPost (w : World) (e : Ending) (w' : World) : Prop := ∃ (v : Value) (ms : List Mo) (a : Int) (s : List UInt8) (to_ : Int), e = .returned (.tuple #[.agg #[v, .int .i64 a], S s, .int .i64 to_]) ∧ RdM w' v ms ∧ ms.length ≤ 30 ∧ s.length ≤ 130 ∧ Below w.heap.size w w'
def DrawHDoPost (w : World) (e : Ending) (w' : World) : Prop := ∃ (v : Value) (ms : List Mo) (a : Int) (s : List UInt8) (qa qc : Int) (t : List UInt8), e = .returned (.tuple #[.agg #[v, .int .i64 a], S s, .agg #[.int .i64 qa, .int .i64 qc, S t]]) ∧ RdM w' v ms ∧ ms.length ≤ 30 ∧ s.length ≤ 130 ∧ t.length ≤ 260 ∧ Below w.heap.size w w'

theorem RdM.set {w : World} {v : Value} {ms : List Mo} {p : Addr} {u : Value} (h : RdM w v ms) (hn : ∀ x, v.ownBlock = some x → x ≠ p.block) : RdM (w.setCell p u) v ms :=
  ⟨Rd.keep h.1 (by simp [World.setCell]) (fun b o hv _ => World.cell?_setCell_other w p ⟨b, o, none⟩ u (fun e => hn b hv (by rw [e]))), h.2⟩
theorem RdM.rs {L : List Nat} {a b : World} {v : Value} {ms : List Mo} (h : RdM a v ms) (hR : RS L a b) (hn : ∀ x, v.ownBlock = some x → x ∉ L) : RdM b v ms :=
  ⟨Rd.keep h.1 hR.size (fun x o hv hx => hR.cell hx (hn x hv) o), h.2⟩
theorem below_gb {a b : World} {g : Nat} (h : a.grownBy b (some g)) (hg : a.heap.size ≤ g) : Below a.heap.size a b := ⟨h.os, h.tape, h.output, h.size, fun i hi => h.block i hi (by simp; omega)⟩


set_option maxRecDepth 100000 in
set_option maxHeartbeats 1000000 in
theorem drawHistoryBack_any (v : Value) (n : Nat) (zs : List Int) (w : World) (h : Bytes w w.heap.size v n zs) :
    Calls Try.prog 38 #[v] w (DrawHPost w) := by
  go_enter Try.func38, Try.ntmps38
  go_wp2_with fail
  refine (open_any v n zs _ (h.to (by (repeat (first | exact Below.refl _ _ | assumption | refine Below.drew ?_ | refine up_drewN ?_ _ | refine up_alloc ?_ _ | refine up_set ?_ _ _ (by first | exact Nat.le_refl _ | (simp; done) | (simp; omega) | omega) | refine up_trans ?_ (by assumption)))))).mono ?_
  rintro e w1 ⟨g, m, ys, rfl, hr, hb, hg⟩
  have rc : ∀ o, w1.cell? ⟨w.heap.size, o, none⟩ = #[.slice none 0 0, .int .i64 0][o]? := (fun o => (hb.cell (p := ⟨w.heap.size, o, none⟩) (by simp <;> omega)).trans (by simp [go_sem])); have rf : ∀ o, w1.frozen? ⟨w.heap.size, o, none⟩ = false := (fun o => (hb.frozen (p := ⟨w.heap.size, o, none⟩) (by simp <;> omega)).trans (by simp [go_sem])); have rz : w.heap.size < w1.heap.size := (by have := hb.size; (try simp at this); omega); have ry := rz
  have hW : Below w.heap.size w w1 := by (repeat (first | exact Below.refl _ _ | assumption | refine Below.drew ?_ | refine up_drewN ?_ _ | refine up_alloc ?_ _ | refine up_set ?_ _ _ (by first | exact Nat.le_refl _ | (simp; done) | (simp; omega) | omega) | refine up_trans ?_ (by assumption)))
  have hg2 : w.heap.size < g := by simp at hg; omega
  clear hb h hg
  go_wp2_with fail
  refine (l20History_any g m ys 0 9 _ hr (by omega)).mono ?_
  rintro e w2 ⟨u, ms, a, s, rfl, H, hl, hs, hlo, -, -, hb⟩
  have rc2 := gup_c hb rz (by omega) rc
  have rf2 := gup_f hb rz (by omega) rf
  have HW := Lib.hid (show Below w.heap.size w w2 from ⟨hb.os.trans hW.os, hb.tape.trans hW.tape, hb.output.trans hW.output, Nat.le_trans hW.size hb.size, fun i hi => (hb.block i (Nat.lt_of_lt_of_le hi hW.size) (by simp; omega)).trans (hW.block i hi)⟩)
  have HH := Lib.hid H
  obtain ⟨A, c, rfl, -, -⟩ := H.1.form
  clear hb H rc rf hW hr
  go_wp2_with fail
  refine bodyPost_ret (v := .tuple #[.agg #[.slice A ms.length c, .int .i64 a], S s]) (by simp [results, Try.results38, go_sem, rc2]) rfl ⟨_, ms, a, s, rfl, ?_, hl, hs, ?_⟩
  · refine (HH.out.set ?_).set ?_ <;> (intro x hx e; have := hlo x hx; simp only at e; omega)
  · exact up_set (up_set HW.out ⟨w.heap.size, 0, none⟩ _ (Nat.le_refl _)) ⟨w.heap.size, 1, none⟩ _ (Nat.le_refl _)

set_option maxRecDepth 100000 in
set_option maxHeartbeats 1000000 in
theorem drawHistoryForth_any (v : Value) (n : Nat) (zs : List Int) (w : World) (h : Bytes w w.heap.size v n zs) :
    Calls Try.prog 40 #[v] w (DrawHPost w) := by
  go_enter Try.func40, Try.ntmps40
  go_wp2_with fail
  refine (open_any v n zs _ (h.to (by (repeat (first | exact Below.refl _ _ | assumption | refine Below.drew ?_ | refine up_drewN ?_ _ | refine up_alloc ?_ _ | refine up_set ?_ _ _ (by first | exact Nat.le_refl _ | (simp; done) | (simp; omega) | omega) | refine up_trans ?_ (by assumption)))))).mono ?_
  rintro e w1 ⟨g, m, ys, rfl, hr, hb, hg⟩
  have rc : ∀ o, w1.cell? ⟨w.heap.size, o, none⟩ = #[.slice none 0 0, .int .i64 0][o]? := (fun o => (hb.cell (p := ⟨w.heap.size, o, none⟩) (by simp <;> omega)).trans (by simp [go_sem])); have rf : ∀ o, w1.frozen? ⟨w.heap.size, o, none⟩ = false := (fun o => (hb.frozen (p := ⟨w.heap.size, o, none⟩) (by simp <;> omega)).trans (by simp [go_sem])); have rz : w.heap.size < w1.heap.size := (by have := hb.size; (try simp at this); omega); have ry := rz
  have hW : Below w.heap.size w w1 := by (repeat (first | exact Below.refl _ _ | assumption | refine Below.drew ?_ | refine up_drewN ?_ _ | refine up_alloc ?_ _ | refine up_set ?_ _ _ (by first | exact Nat.le_refl _ | (simp; done) | (simp; omega) | omega) | refine up_trans ?_ (by assumption)))
  have hg2 : w.heap.size < g := by simp at hg; omega
  clear hb h hg
  go_wp2_with fail
  refine (l20History_any g m ys 0 9 _ hr (by omega)).mono ?_
  rintro e w2 ⟨u, ms, a, s, rfl, H, hl, hs, hlo, -, -, hb⟩
  have rc2 := gup_c hb rz (by omega) rc
  have rf2 := gup_f hb rz (by omega) rf
  have HW := Lib.hid (show Below w.heap.size w w2 from ⟨hb.os.trans hW.os, hb.tape.trans hW.tape, hb.output.trans hW.output, Nat.le_trans hW.size hb.size, fun i hi => (hb.block i (Nat.lt_of_lt_of_le hi hW.size) (by simp; omega)).trans (hW.block i hi)⟩)
  have HH := Lib.hid H
  obtain ⟨A, c, rfl, -, -⟩ := H.1.form
  clear hb H rc rf hW hr
  go_wp2_with fail
  refine bodyPost_ret (v := .tuple #[.agg #[.slice A ms.length c, .int .i64 a], S s]) (by simp [results, Try.results40, go_sem, rc2]) rfl ⟨_, ms, a, s, rfl, ?_, hl, hs, ?_⟩
  · refine (HH.out.set ?_).set ?_ <;> (intro x hx e; have := hlo x hx; simp only at e; omega)
  · exact up_set (up_set HW.out ⟨w.heap.size, 0, none⟩ _ (Nat.le_refl _)) ⟨w.heap.size, 1, none⟩ _ (Nat.le_refl _)

/-- the reader does not lie in a box whose cells are no bytes. -/
theorem rdr_far {w w' : World} {g n q r : Nat} {zs : List Int} {V : Array Value} (h : Rdr w g n zs q) (hI : Is w r V) (hV : ∀ (o : Nat) (x : Value), V[o]? = some x → ∀ z : Int, x ≠ Value.int .u8 z) (hrg : r ≠ g) (hs : ∀ i, i ≠ r → w'.heap[i]? = w.heap[i]?) : Rdr w' g n zs q := by
  obtain ⟨v, h1, h2, h3, b1, b2, A, c, rfl, b3, b4, b5⟩ := h
  refine ⟨_, (hs g (Ne.symm hrg)).trans h1, h2, h3, b1, b2, A, c, rfl, b3, b4, fun hn => ?_⟩
  obtain ⟨b, o, rfl, hbg, hc⟩ := b5 hn
  have hne : b ≠ r := by
    rintro rfl
    have hz : zs[0]? = some zs[0] := List.getElem?_eq_getElem (by omega)
    have := hc 0 _ hz
    rw [hI.1] at this
    exact hV _ _ this _ rfl
  exact ⟨b, o, rfl, hbg, fun j z hz => (World.cell?_of_block (a := ⟨b, o + j, none⟩) (hs b hne)).trans (hc j z hz)⟩
/-- the result's box is empty, or holds the history. -/
def HB (r : Nat) (A : Option Addr) (n c : Nat) (a : Int) (w : World) : Prop := ∃ A' n' c' a', Is w r #[.slice A' n' c', .int .i64 a'] ∧ ((A' = none ∧ n' = 0 ∧ c' = 0 ∧ a' = 0) ∨ (A' = A ∧ n' = n ∧ c' = c ∧ a' = a))
theorem HB.same {r : Nat} {A : Option Addr} {n c : Nat} {a : Int} {w w' : World} (h : HB r A n c a w) (hb : w'.heap[r]? = w.heap[r]?) : HB r A n c a w' := by
  obtain ⟨A', n', c', a', h, hh⟩ := h
  exact ⟨A', n', c', a', h.of_block hb, hh⟩
theorem hb_new {r : Nat} {A : Option Addr} {n c : Nat} {a : Int} {w : World} (h : Is w r #[.slice none 0 0, .int .i64 0]) : HB r A n c a w := ⟨_, _, _, _, h, .inl ⟨rfl, rfl, rfl, rfl⟩⟩
theorem hb_put {r g m q : Nat} {zs : List Int} {A A' : Option Addr} {n c n' c' : Nat} {a a' : Int} {w : World} (h : Is w r #[.slice A' n' c', .int .i64 a']) (hr : Rdr w g m zs q) (hrg : r ≠ g) : Rdr ((w.setCell ⟨r, 0, none⟩ (.slice A n c)).setCell ⟨r, 1, none⟩ (.int .i64 a)) g m zs q ∧ HB r A n c a ((w.setCell ⟨r, 0, none⟩ (.slice A n c)).setCell ⟨r, 1, none⟩ (.int .i64 a)) :=
  ⟨rdr_far hr h (fun o x hx z => by
      match o, hx with
      | 0, hx => simp at hx; subst hx; simp
      | 1, hx => simp at hx; subst hx; simp
      | o + 2, hx => simp at hx) hrg (fun i hi => (Below.heap_setCell _ ⟨r, 1, none⟩ _ i hi).trans (Below.heap_setCell w ⟨r, 0, none⟩ _ i hi)),
    _, _, _, _, put_is (V := #[.slice A n c, .int .i64 a]) h rfl, .inr ⟨rfl, rfl, rfl, rfl⟩⟩
/-- the result's second box holds some change. -/
def CB (r : Nat) (w : World) : Prop := ∃ (qa qc : Int) (t : List UInt8), t.length ≤ 260 ∧ Is w r #[.int .i64 qa, .int .i64 qc, S t]
theorem CB.same {r : Nat} {w w' : World} (h : CB r w) (hb : w'.heap[r]? = w.heap[r]?) : CB r w' := by
  obtain ⟨qa, qc, t, ht, h⟩ := h
  exact ⟨qa, qc, t, ht, h.of_block hb⟩
theorem cb_put {r g m q : Nat} {zs : List Int} {qa qc qa' qc' : Int} {t t' : List UInt8} {w : World} (h : Is w r #[.int .i64 qa', .int .i64 qc', S t']) (ht : t.length ≤ 260) (hr : Rdr w g m zs q) (hrg : r ≠ g) : Rdr (((w.setCell ⟨r, 0, none⟩ (.int .i64 qa)).setCell ⟨r, 1, none⟩ (.int .i64 qc)).setCell ⟨r, 2, none⟩ (S t)) g m zs q ∧ CB r (((w.setCell ⟨r, 0, none⟩ (.int .i64 qa)).setCell ⟨r, 1, none⟩ (.int .i64 qc)).setCell ⟨r, 2, none⟩ (S t)) :=
  ⟨rdr_far hr h (fun o x hx z => by
      match o, hx with
      | 0, hx => simp at hx; subst hx; simp
      | 1, hx => simp at hx; subst hx; simp
      | 2, hx => simp at hx; subst hx; simp
      | o + 3, hx => simp at hx) hrg (fun i hi => ((Below.heap_setCell _ ⟨r, 2, none⟩ _ i hi).trans (Below.heap_setCell _ ⟨r, 1, none⟩ _ i hi)).trans (Below.heap_setCell w ⟨r, 0, none⟩ _ i hi)),
    qa, qc, t, ht, put_is (V := #[.int .i64 qa, .int .i64 qc, S t]) h rfl⟩

set_option maxRecDepth 100000 in
set_option maxHeartbeats 2000000 in
theorem drawHistoryTo_any (v : Value) (n : Nat) (zs : List Int) (w : World) (h : Bytes w w.heap.size v n zs) :
    Calls Try.prog 37 #[v] w (DrawHToPost w) := by
  go_enter Try.func37, Try.ntmps37
  go_wp2_with fail
  refine (open_any v n zs _ (h.to (by (repeat (first | exact Below.refl _ _ | assumption | refine Below.drew ?_ | refine up_drewN ?_ _ | refine up_alloc ?_ _ | refine up_set ?_ _ _ (by first | exact Nat.le_refl _ | (simp; done) | (simp; omega) | omega) | refine up_trans ?_ (by assumption)))))).mono ?_
  rintro e w1 ⟨g, m, ys, rfl, hr, hb, hg⟩
  have rc : ∀ o, w1.cell? ⟨w.heap.size, o, none⟩ = #[.slice none 0 0, .int .i64 0][o]? := (fun o => (hb.cell (p := ⟨w.heap.size, o, none⟩) (by simp <;> omega)).trans (by simp [go_sem])); have rf : ∀ o, w1.frozen? ⟨w.heap.size, o, none⟩ = false := (fun o => (hb.frozen (p := ⟨w.heap.size, o, none⟩) (by simp <;> omega)).trans (by simp [go_sem])); have rz : w.heap.size < w1.heap.size := (by have := hb.size; (try simp at this); omega); have ry := rz
  have hW : Below w.heap.size w w1 := by (repeat (first | exact Below.refl _ _ | assumption | refine Below.drew ?_ | refine up_drewN ?_ _ | refine up_alloc ?_ _ | refine up_set ?_ _ _ (by first | exact Nat.le_refl _ | (simp; done) | (simp; omega) | omega) | refine up_trans ?_ (by assumption)))
  have hg2 : w.heap.size < g := by simp at hg; omega
  have hgz := hr.lt
  clear hb h hg
  go_wp2_with fail
  refine (l20History_any g m ys 0 12 _ hr (by omega)).mono ?_
  rintro e w2 ⟨u, ms, a, s, rfl, H, hl, hs, hlo, -, ⟨q, hq, hr2⟩, hb⟩
  have rc2 := gup_c hb rz (by omega) rc
  have rf2 := gup_f hb rz (by omega) rf
  have sw2 := hb.size
  have hW2 := (show Below w.heap.size w w2 from ⟨hb.os.trans hW.os, hb.tape.trans hW.tape, hb.output.trans hW.output, Nat.le_trans hW.size hb.size, fun i hi => (hb.block i (Nat.lt_of_lt_of_le hi hW.size) (by simp; omega)).trans (hW.block i hi)⟩)
  obtain ⟨A, c, rfl, -, -⟩ := H.1.form
  go_upto_region 3 with (fail)
  obtain ⟨W0, hw⟩ : ∃ z, z = w2.alloc (.cells #[.slice A ms.length c, .int .i64 a] 28) := ⟨_, rfl⟩
  rw [← hw]
  have hB : Below w2.heap.size w2 W0 := by rw [hw]; exact up_alloc (Below.refl _ _) _
  have hI : Is W0 w2.heap.size #[.slice A ms.length c, .int .i64 a] := by rw [hw]; exact new_is w2 _ _
  have xc := hI.1
  have xz : w2.heap.size < W0.heap.size := by rw [hw]; simp
  have rI : Is W0 w.heap.size #[.slice none 0 0, .int .i64 0] := Is.up ⟨rc2, rf2⟩ (by omega) hB
  have hr3 := hr2.up hB
  have HH := Lib.hid (H.up hB)
  have HW := Lib.hid (up_trans hW2 hB)
  have hgB : g < W0.heap.size := by omega
  have hrB : w.heap.size < W0.heap.size := by omega
  have MM : MR g m ys q 2 0 W0.drew ∧ HB w.heap.size A ms.length c a W0.drew := ⟨MR.drew ⟨q, by omega, hr3⟩, hb_new rI⟩
  have hxg : w2.heap.size ≠ g := by omega
  have hxr : w2.heap.size ≠ w.heap.size := by omega
  have hnr : ∀ x, (Value.slice A ms.length c).ownBlock = some x → x ≠ w.heap.size := fun x hx => by have := hlo x hx; omega
  clear hb H rc rf hW hr hr2 hr3 rc2 rf2 hW2 hw hB hI rI
  --EVER{spec.DrawHistoryTo;3;dhto3}
  refine wp_region_ever (R := RS [g, w.heap.size]) (M := fun k w' => MR g m ys q 2 k w' ∧ HB w.heap.size A ms.length c a w') [tEq _ (.agg #[.slice A ms.length c, .int .i64 a]), tEq _ (S s), tEq _ (.pointer (some ⟨g, 0, none⟩)), tEq _ (.pointer (some ⟨w2.heap.size, 0, none⟩)), tEq _ (.slice A ms.length c), tEq _ (.int .i64 ms.length), tOf _ isInt, tOf _ isInt, tOf _ isInt, tyAny _, tEq _ (S s), tOf _ isInt] (by kernel_rfl) (RS.refl _) (fun _ _ _ => RS.trans) (by kernel_rfl) (MM) ?_ ?_
  · refine ⟨?_, ?_, ?_, ?_, ?_, ?_, ?_, ?_, ?_, ?_, ?_, ?_, trivial⟩
    · intro k' w' ρ hk' hR hM hF
      replace hk' : k' < 12 := hk'
      obtain ⟨f0, -⟩ := hF
      replace f0 : ρ (.tmp 6) = .pointer (some ⟨w2.heap.size, 0, none⟩) := f0
      refine good_of fun K hK => ?_
      have z0 := (hR.of_drew.cell xz (by simp; omega) 0).trans (xc 0); have z1 := (hR.of_drew.cell xz (by simp; omega) 1).trans (xc 1); go_simp; exact hK _ _ (RS.refl _ _) (⟨hM.1.next, hM.2⟩) rfl
    · intro k' w' ρ hk' hR hM hF
      replace hk' : k' < 12 := hk'
      obtain ⟨f0, -⟩ := hF
      replace f0 : ρ (.tmp 7) = S s := f0
      exact ⟨RS.refl _ _, ⟨hM.1.next, hM.2⟩, f0⟩
    · intro k' w' ρ hk' hR hM hF
      replace hk' : k' < 12 := hk'
      obtain ⟨f0, -⟩ := hF
      replace f0 : ρ (.tmp 5) = .pointer (some ⟨g, 0, none⟩) := f0
      exact ⟨RS.refl _ _, ⟨hM.1.next, hM.2⟩, f0⟩
    · intro k' w' ρ hk' hR hM hF
      replace hk' : k' < 12 := hk'
      obtain ⟨f0, -⟩ := hF
      replace f0 : ρ (.tmp 6) = .pointer (some ⟨w2.heap.size, 0, none⟩) := f0
      refine good_of fun K hK => ?_
      go_simp
      exact hK _ _ (RS.refl _ _) (⟨hM.1.next, hM.2⟩) (rfl)
    · intro k' w' ρ hk' hR hM hF
      replace hk' : k' < 12 := hk'
      obtain ⟨f0, -⟩ := hF
      replace f0 : ρ (.tmp 18) = .pointer (some ⟨w2.heap.size, 0, none⟩) := f0
      refine good_of fun K hK => ?_
      have z0 := (hR.of_drew.cell xz (by simp; omega) 0).trans (xc 0); go_simp; exact hK _ _ (RS.refl _ _) ⟨hM.1.next, hM.2⟩ rfl
    · intro k' w' ρ hk' hR hM hF
      replace hk' : k' < 12 := hk'
      obtain ⟨f0, -⟩ := hF
      replace f0 : ρ (.tmp 19) = .slice A ms.length c := f0
      refine good_of fun K hK => ?_
      go_simp
      exact hK _ _ (RS.refl _ _) (⟨hM.1.next, hM.2⟩) (rfl)
    · intro k' w' ρ hk' hR hM hF
      replace hk' : k' < 12 := hk'
      obtain ⟨f0, f1, -⟩ := hF
      replace f0 : ρ (.tmp 20) = .int .i64 ms.length := f0
      replace f1 : ρ (.const (.int .i64 2)) = .int .i64 2 := f1
      refine good_of fun K hK => ?_
      go_simp; exact hK _ _ (RS.refl _ _) ⟨hM.1.next, hM.2⟩ ⟨_, rfl⟩
    · intro k' w' ρ hk' hR hM hF
      replace hk' : k' < 12 := hk'
      obtain ⟨f0, f1, f2, -⟩ := hF
      replace f0 : ρ (.func _) = .func (.func _) #[] #[] := f0
      replace f1 : ρ (.tmp 17) = .pointer (some ⟨g, 0, none⟩) := f1
      refine good_of fun K hK => ?_
      obtain ⟨x1, f2⟩ := f2; replace f2 : ρ (.tmp 21) = .int .i64 x1 := f2; obtain ⟨⟨q', hq', hr'⟩, hH⟩ := hM; have HR := Lib.hid hr'; clear hr'; go_simp; refine (pick_any g m ys q' x1 _ HR.out (by omega)).mono ?_; rintro e wc ⟨x, rfl, _, _, hr', hb⟩; exact ⟨_, rfl, hK _ _ ((RS.refl _ _).grown hb (by intro g' h; injection h with h; subst h; exact .inl (by simp))) ⟨⟨q' + 1, by omega, hr'⟩, hH.same (hb.block _ (Nat.lt_of_lt_of_le hrB hR.size) (by simp; omega))⟩ ⟨x, rfl⟩⟩
    · intro k' w' ρ hk' hR hM hF
      replace hk' : k' < 12 := hk'
      obtain ⟨f0, f1, -⟩ := hF
      replace f1 : ρ (.const (.int .i64 1)) = .int .i64 1 := f1
      refine good_of fun K hK => ?_
      obtain ⟨x1, f0⟩ := f0; replace f0 : ρ (.tmp 22) = .int .i64 x1 := f0; go_simp; exact hK _ _ (RS.refl _ _) ⟨hM.1.next, hM.2⟩ ⟨_, rfl⟩
    · intro k' w' ρ hk' hR hM hF
      replace hk' : k' < 12 := hk'
      obtain ⟨f0, f1, -⟩ := hF
      replace f0 : ρ (.tmp 2) = .pointer (some ⟨w.heap.size, 0, none⟩) := f0
      replace f1 : ρ (.tmp 15) = .agg #[.slice A ms.length c, .int .i64 a] := f1
      refine good_of fun K hK => ?_
      obtain ⟨⟨q', hq', hr'⟩, hH⟩ := hM; obtain ⟨A', n', c', a', hI, -⟩ := hH; have e0 := hI.1 0; have e1 := hI.1 1; simp only [List.getElem?_toArray, List.getElem?_cons_zero, List.getElem?_cons_succ] at e0 e1; have qf := hI.2; have HM := Lib.hid (hb_put (A := A) (n := ms.length) (c := c) (a := a) hI hr' (by omega)); clear hr' hI; go_simp; exact hK _ _ (((RS.refl _ _).set _ _ (by simp)).set _ _ (by simp)) ⟨⟨q', by omega, HM.out.1⟩, HM.out.2⟩ trivial
    · intro k' w' ρ hk' hR hM hF
      replace hk' : k' < 12 := hk'
      obtain ⟨f0, -⟩ := hF
      replace f0 : ρ (.tmp 16) = S s := f0
      exact ⟨RS.refl _ _, ⟨hM.1.next, hM.2⟩, f0⟩
    · intro k' w' ρ hk' hR hM hF
      replace hk' : k' < 12 := hk'
      obtain ⟨f0, -⟩ := hF
      exact ⟨RS.refl _ _, ⟨hM.1.next, hM.2⟩, f0⟩
  · intro w' hR hM
    rintro _ rfl
    rintro _ rfl
    rintro _ rfl
    rintro _ rfl
    rintro _ rfl
    rintro _ rfl
    rintro _ ⟨_, rfl⟩
    rintro _ ⟨_, rfl⟩
    rintro _ ⟨_, rfl⟩
    rintro _ -
    rintro _ rfl
    rintro _ ⟨to_, rfl⟩
  --END
  --END
    dsimp only [EndAll, Act.put]
    obtain ⟨w4, rfl⟩ : ∃ z, z = w' := ⟨_, rfl⟩
    have hB := hR.of_drew
    obtain ⟨A', n', c', a', hI, hh⟩ := hM.2
    have HR := Lib.hid (HH.out.rs hB (fun x hx => by have := hlo x hx; simp; omega))
    have HB4 := Lib.hid (show Below w.heap.size w w4 from ⟨hB.os.trans HW.out.os, hB.tape.trans HW.out.tape, hB.output.trans HW.out.output, Nat.le_trans HW.out.size hB.size, fun i hi => (hB.block i (Nat.lt_of_lt_of_le hi HW.out.size) (by simp; omega)).trans (HW.out.block i hi)⟩)
    have rc := hI.1
    clear hR hM MM hI hB HH HW xc
    go_wp2_with fail
    rcases hh with ⟨rfl, rfl, rfl, rfl⟩ | ⟨rfl, rfl, rfl, rfl⟩
    · refine bodyPost_ret (v := .tuple #[.agg #[.slice none 0 0, .int .i64 0], S s, .int .i64 to_]) (by simp [results, Try.results37, go_sem, rc]) rfl ⟨_, [], 0, s, to_, rfl, rdM_none _ _, by simp, hs, HB4.out⟩
    · refine bodyPost_ret (v := .tuple #[.agg #[.slice A' ms.length c', .int .i64 a'], S s, .int .i64 to_]) (by simp [results, Try.results37, go_sem, rc]) rfl ⟨_, ms, a', s, to_, rfl, HR.out, hl, hs, HB4.out⟩

set_option maxRecDepth 100000 in
set_option maxHeartbeats 2000000 in
theorem drawHistoryDo_any (v : Value) (n : Nat) (zs : List Int) (w : World) (h : Bytes w w.heap.size v n zs) :
    Calls Try.prog 41 #[v] w (DrawHDoPost w) := by
  go_enter Try.func41, Try.ntmps41
  go_wp2_with fail
  refine (open_any v n zs _ (h.to (by (repeat (first | exact Below.refl _ _ | assumption | refine Below.drew ?_ | refine up_drewN ?_ _ | refine up_alloc ?_ _ | refine up_set ?_ _ _ (by first | exact Nat.le_refl _ | (simp; done) | (simp; omega) | omega) | refine up_trans ?_ (by assumption)))))).mono ?_
  rintro e w1 ⟨g, m, ys, rfl, hr, hb, hg⟩
  have rc : ∀ o, w1.cell? ⟨w.heap.size, o, none⟩ = #[.slice none 0 0, .int .i64 0][o]? := (fun o => (hb.cell (p := ⟨w.heap.size, o, none⟩) (by simp <;> omega)).trans (by simp [go_sem])); have rf : ∀ o, w1.frozen? ⟨w.heap.size, o, none⟩ = false := (fun o => (hb.frozen (p := ⟨w.heap.size, o, none⟩) (by simp <;> omega)).trans (by simp [go_sem])); have rz : w.heap.size < w1.heap.size := (by have := hb.size; (try simp at this); omega); have ry := rz
  have kc : ∀ o, w1.cell? ⟨w.heap.size + 1, o, none⟩ = #[.int .i64 0, .int .i64 0, S []][o]? := (fun o => (hb.cell (p := ⟨w.heap.size + 1, o, none⟩) (by simp <;> omega)).trans (by simp [go_sem])); have kf : ∀ o, w1.frozen? ⟨w.heap.size + 1, o, none⟩ = false := (fun o => (hb.frozen (p := ⟨w.heap.size + 1, o, none⟩) (by simp <;> omega)).trans (by simp [go_sem])); have kz : w.heap.size + 1 < w1.heap.size := (by have := hb.size; (try simp at this); omega); have ky := kz
  have hW : Below w.heap.size w w1 := by (repeat (first | exact Below.refl _ _ | assumption | refine Below.drew ?_ | refine up_drewN ?_ _ | refine up_alloc ?_ _ | refine up_set ?_ _ _ (by first | exact Nat.le_refl _ | (simp; done) | (simp; omega) | omega) | refine up_trans ?_ (by assumption)))
  have hg2 : w.heap.size + 1 < g := by simp at hg; omega
  have hgz := hr.lt
  clear hb h hg
  go_wp2_with fail
  refine (l20History_any g m ys 0 14 _ hr (by omega)).mono ?_
  rintro e w2 ⟨u, ms, a, s, rfl, H, hl, hs, hlo, -, ⟨q, hq, hr2⟩, hb⟩
  have rc2 := gup_c hb rz (by omega) rc
  have rf2 := gup_f hb rz (by omega) rf
  have kc2 := gup_c hb kz (by omega) kc
  have kf2 := gup_f hb kz (by omega) kf
  have sw2 := hb.size
  have hW2 := (show Below w.heap.size w w2 from ⟨hb.os.trans hW.os, hb.tape.trans hW.tape, hb.output.trans hW.output, Nat.le_trans hW.size hb.size, fun i hi => (hb.block i (Nat.lt_of_lt_of_le hi hW.size) (by simp; omega)).trans (hW.block i hi)⟩)
  obtain ⟨A, c, rfl, -, -⟩ := H.1.form
  go_upto_region 3 with (fail)
  obtain ⟨W0, hw⟩ : ∃ z, z = w2.alloc (.cells #[.slice A ms.length c, .int .i64 a] 28) := ⟨_, rfl⟩
  rw [← hw]
  have hB : Below w2.heap.size w2 W0 := by rw [hw]; exact up_alloc (Below.refl _ _) _
  have hI : Is W0 w2.heap.size #[.slice A ms.length c, .int .i64 a] := by rw [hw]; exact new_is w2 _ _
  have xc := hI.1
  have xz : w2.heap.size < W0.heap.size := by rw [hw]; simp
  have rI : Is W0 w.heap.size #[.slice none 0 0, .int .i64 0] := Is.up ⟨rc2, rf2⟩ (by omega) hB
  have kI : Is W0 (w.heap.size + 1) #[.int .i64 0, .int .i64 0, S []] := Is.up ⟨kc2, kf2⟩ (by omega) hB
  have hr3 := hr2.up hB
  have HH := Lib.hid (H.up hB)
  have HW := Lib.hid (up_trans hW2 hB)
  have hgB : g < W0.heap.size := by omega
  have hrB : w.heap.size < W0.heap.size := by omega
  have hkB : w.heap.size + 1 < W0.heap.size := by omega
  have MM : MR g m ys q 60 0 W0.drew ∧ HB w.heap.size A ms.length c a W0.drew ∧ CB (w.heap.size + 1) W0.drew := ⟨MR.drew ⟨q, by omega, hr3⟩, hb_new rI, 0, 0, [], by simp, kI⟩
  have hxg : w2.heap.size ≠ g := by omega
  have hxr : w2.heap.size ≠ w.heap.size := by omega
  clear hb H rc rf kc kf hW hr hr2 hr3 rc2 rf2 kc2 kf2 hW2 hw hB hI rI kI
  --EVER{spec.DrawHistoryDo;3;dhdo3}
  refine wp_region_ever (R := RS [g, w.heap.size, w.heap.size + 1]) (M := fun k w' => MR g m ys q 60 k w' ∧ HB w.heap.size A ms.length c a w' ∧ CB (w.heap.size + 1) w') [tEq _ (.agg #[.slice A ms.length c, .int .i64 a]), tEq _ (S s), tEq _ (.pointer (some ⟨g, 0, none⟩)), tEq _ (S s), tOf _ isCh, tyAny _, tEq _ (S s), tyAny _] (by kernel_rfl) (RS.refl _) (fun _ _ _ => RS.trans) (by kernel_rfl) (MM) ?_ ?_
  · refine ⟨?_, ?_, ?_, ?_, ?_, ?_, ?_, ?_, trivial⟩
    · intro k' w' ρ hk' hR hM hF
      replace hk' : k' < 8 := hk'
      obtain ⟨f0, -⟩ := hF
      replace f0 : ρ (.tmp 6) = .pointer (some ⟨w2.heap.size, 0, none⟩) := f0
      refine good_of fun K hK => ?_
      have z0 := (hR.of_drew.cell xz (by simp; omega) 0).trans (xc 0); have z1 := (hR.of_drew.cell xz (by simp; omega) 1).trans (xc 1); go_simp; exact hK _ _ (RS.refl _ _) (⟨hM.1.next, hM.2⟩) rfl
    · intro k' w' ρ hk' hR hM hF
      replace hk' : k' < 8 := hk'
      obtain ⟨f0, -⟩ := hF
      replace f0 : ρ (.tmp 7) = S s := f0
      exact ⟨RS.refl _ _, ⟨hM.1.next, hM.2⟩, f0⟩
    · intro k' w' ρ hk' hR hM hF
      replace hk' : k' < 8 := hk'
      obtain ⟨f0, -⟩ := hF
      replace f0 : ρ (.tmp 5) = .pointer (some ⟨g, 0, none⟩) := f0
      exact ⟨RS.refl _ _, ⟨hM.1.next, hM.2⟩, f0⟩
    · intro k' w' ρ hk' hR hM hF
      replace hk' : k' < 8 := hk'
      obtain ⟨f0, -⟩ := hF
      replace f0 : ρ (.tmp 7) = S s := f0
      exact ⟨RS.refl _ _, ⟨hM.1.next, hM.2⟩, f0⟩
    · intro k' w' ρ hk' hR hM hF
      replace hk' : k' < 8 := hk'
      obtain ⟨f0, f1, f2, f3, -⟩ := hF
      replace f0 : ρ (.func _) = .func (.func _) #[] #[] := f0
      replace f1 : ρ (.tmp 17) = .pointer (some ⟨g, 0, none⟩) := f1
      replace f2 : ρ (.tmp 18) = S s := f2
      replace f3 : ρ (.const (.int .i64 9)) = .int .i64 9 := f3
      refine good_of fun K hK => ?_
      obtain ⟨⟨q', hq', hr'⟩, hH, hC⟩ := hM; have HR := Lib.hid hr'; clear hr'; go_simp; refine (l20Change_any g m ys q' 9 s _ HR.out (by omega) hs).mono ?_; rintro e wc ⟨qa, qc, ct, rfl, hct, ⟨q2, hq2, hr2⟩, hb⟩; exact ⟨_, rfl, hK _ _ ((RS.refl _ _).grown hb (by intro g' h; injection h with h; subst h; exact .inl (by simp))) ⟨⟨q2, by rw [Nat.mul_add]; omega, hr2⟩, hH.same (hb.block _ (Nat.lt_of_lt_of_le hrB hR.size) (by simp; omega)), hC.same (hb.block _ (Nat.lt_of_lt_of_le hkB hR.size) (by simp; omega))⟩ ⟨qa, qc, ct, rfl, hct⟩⟩
    · intro k' w' ρ hk' hR hM hF
      replace hk' : k' < 8 := hk'
      obtain ⟨f0, f1, -⟩ := hF
      replace f0 : ρ (.tmp 2) = .pointer (some ⟨w.heap.size, 0, none⟩) := f0
      replace f1 : ρ (.tmp 15) = .agg #[.slice A ms.length c, .int .i64 a] := f1
      refine good_of fun K hK => ?_
      obtain ⟨⟨q', hq', hr'⟩, hH, hC⟩ := hM; obtain ⟨A', n', c', a', hI, -⟩ := hH; have e0 := hI.1 0; have e1 := hI.1 1; simp only [List.getElem?_toArray, List.getElem?_cons_zero, List.getElem?_cons_succ] at e0 e1; have qf := hI.2; have HM := Lib.hid (hb_put (A := A) (n := ms.length) (c := c) (a := a) hI hr' (by omega)); clear hr' hI; go_simp; exact hK _ _ (((RS.refl _ _).set _ _ (by simp)).set _ _ (by simp)) ⟨⟨q', by rw [Nat.mul_add]; omega, HM.out.1⟩, HM.out.2, hC.same ((Below.heap_setCell _ ⟨w.heap.size, 1, none⟩ _ _ (by simp)).trans (Below.heap_setCell _ ⟨w.heap.size, 0, none⟩ _ _ (by simp)))⟩ trivial
    · intro k' w' ρ hk' hR hM hF
      replace hk' : k' < 8 := hk'
      obtain ⟨f0, -⟩ := hF
      replace f0 : ρ (.tmp 16) = S s := f0
      exact ⟨RS.refl _ _, ⟨hM.1.next, hM.2⟩, f0⟩
    · intro k' w' ρ hk' hR hM hF
      replace hk' : k' < 8 := hk'
      obtain ⟨f0, f1, -⟩ := hF
      replace f0 : ρ (.tmp 4) = .pointer (some ⟨w.heap.size + 1, 0, none⟩) := f0
      refine good_of fun K hK => ?_
      obtain ⟨qa, qc, ct, f1, hct⟩ := f1; replace f1 : ρ (.tmp 19) = .agg #[.int .i64 qa, .int .i64 qc, S ct] := f1; obtain ⟨⟨q', hq', hr'⟩, hH, ⟨ra, rc, rt, -, hI⟩⟩ := hM; have e0 := hI.1 0; have e1 := hI.1 1; have e2 := hI.1 2; simp only [List.getElem?_toArray, List.getElem?_cons_zero, List.getElem?_cons_succ] at e0 e1 e2; have qf := hI.2; have HM := Lib.hid (cb_put (qa := qa) (qc := qc) (t := ct) hI hct hr' (by omega)); clear hr' hI; go_simp; exact hK _ _ ((((RS.refl _ _).set _ _ (by simp)).set _ _ (by simp)).set _ _ (by simp)) ⟨⟨q', by rw [Nat.mul_add]; omega, HM.out.1⟩, hH.same (((Below.heap_setCell _ ⟨w.heap.size + 1, 2, none⟩ _ _ (by simp)).trans (Below.heap_setCell _ ⟨w.heap.size + 1, 1, none⟩ _ _ (by simp))).trans (Below.heap_setCell _ ⟨w.heap.size + 1, 0, none⟩ _ _ (by simp))), HM.out.2⟩ trivial
  · intro w' hR hM
    rintro _ rfl
    rintro _ rfl
    rintro _ rfl
    rintro _ rfl
    rintro _ ⟨_, _, _, rfl, -⟩
    rintro _ -
    rintro _ rfl
    rintro _ -
  --END
  --END
    dsimp only [EndAll, Act.put]
    obtain ⟨w4, rfl⟩ : ∃ z, z = w' := ⟨_, rfl⟩
    have hB := hR.of_drew
    obtain ⟨A', n', c', a', hI, hh⟩ := hM.2.1
    obtain ⟨qa, qc, t, ht, hK⟩ := hM.2.2
    have kc := hK.1
    have HR := Lib.hid (HH.out.rs hB (fun x hx => by have := hlo x hx; simp; omega))
    have HB4 := Lib.hid (show Below w.heap.size w w4 from ⟨hB.os.trans HW.out.os, hB.tape.trans HW.out.tape, hB.output.trans HW.out.output, Nat.le_trans HW.out.size hB.size, fun i hi => (hB.block i (Nat.lt_of_lt_of_le hi HW.out.size) (by simp; omega)).trans (HW.out.block i hi)⟩)
    have rc := hI.1
    clear hR hM MM hI hK hB HH HW xc
    go_wp2_with fail
    rcases hh with ⟨rfl, rfl, rfl, rfl⟩ | ⟨rfl, rfl, rfl, rfl⟩
    · refine bodyPost_ret (v := .tuple #[.agg #[.slice none 0 0, .int .i64 0], S s, .agg #[.int .i64 qa, .int .i64 qc, S t]]) (by simp [results, Try.results41, go_sem, rc, kc]) rfl ⟨_, [], 0, s, qa, qc, t, rfl, rdM_none _ _, by simp, hs, ht, HB4.out⟩
    · refine bodyPost_ret (v := .tuple #[.agg #[.slice A' ms.length c', .int .i64 a'], S s, .agg #[.int .i64 qa, .int .i64 qc, S t]]) (by simp [results, Try.results41, go_sem, rc, kc]) rfl ⟨_, ms, a', s, qa, qc, t, rfl, HR.out, hl, hs, ht, HB4.out⟩

end Go.Proofs.Ytjcdklkdpcncgaa
