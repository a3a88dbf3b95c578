/- What is proved here: the draw of editors: the contract of l20Editor. No condition. -/
import Derived.Test.YtbjlkdenkmbepaaGreatDoorSp4
import Derived.Test.YtbjlkdenkmbepaaGreatDoorDrawT
import Derived.Test.YtbjlkdenkmbepaaGreatDoorEverL
import Derived.Test.YtbjlkdenkmbepaaGreatDoorEd0
import Derived.Test.YtbjlkdenkmbepaaGreatDoorHNx
namespace Go.Proofs.YtbjlkdenkmbepaaGreatDoor
open Go.RowKit
set_option linter.unusedVariables false

/-- a new editor. -/
def ToES (s : List UInt8) (w : World) (e : Ending) (w' : World) : Prop := ∃ v, e = .returned (edAgg s 0 [] v 0) ∧ OwnM w' w.heap.size v [m0] ∧ Below w.heap.size w w'
set_option maxRecDepth 100000 in
set_option maxHeartbeats 1000000 in
theorem specEditorOf_good (s : List UInt8) (w : World) (ht : tv s = true) :
    Calls Tryz.prog 31 #[S s] w (ToES s w) := by
  have hs := tv_len ht
  have T := Lib.hid (fun w => specTextValid_any s w (by unfold maxLen; omega))
  have C := Lib.hid (fun w => specHistoryOf_any w)
  unfold CopyPost at C
  unfold ToES edAgg
  rw [ht] at T
  clear ht
  go_enter Tryz.func31, Tryz.ntmps31
  go_wp2_with fail
  refine (T.out _).mono ?_
  rintro e w1 ⟨rfl, rfl⟩
  go_wp2_with fail
  refine (C.out _).mono ?_
  rintro e w2 ⟨v2, rfl, ho, hb⟩
  have xc : ∀ o, w2.cell? ⟨w.heap.size, o, none⟩ = #[S [], .int .i64 0, S [], .slice none 0 0, .int .i64 0][o]? := (fun o => (hb.cell (p := ⟨w.heap.size, o, none⟩) (by simp <;> omega)).trans (by simp [go_sem])); have xf : ∀ o, w2.frozen? ⟨w.heap.size, o, none⟩ = false := (fun o => (hb.frozen (p := ⟨w.heap.size, o, none⟩) (by simp <;> omega)).trans (by simp [go_sem])); have xz : w.heap.size < w2.heap.size := (by have := hb.size; (try simp at this); omega); have xy := xz
  have hW : Below w.heap.size w w2 := by exact bBel
  have HO := Lib.hid (own_base ho (show w.heap.size + 1 ≤ _ by simp))
  obtain ⟨A2, c2, rfl, -, -⟩ := (RdL.of_own (f := moC) (bs := [m0]) ho).form
  clear hb ho
  simp only [List.length_cons, List.length_nil, Nat.zero_add] at HO ⊢
  go_wp2_with fail
  refine bodyPost_ret (v := .agg #[S s, .int .i64 0, S [], .slice A2 1 c2, .int .i64 0]) (by simp [results, Tryz.results31, go_sem, xc]) rfl ⟨_, rfl, ?_, by (repeat refine up_set ?_ _ _ (by first | exact Nat.le_refl _ | (simp; done) | (simp; omega) | omega)); exact hW⟩
  exact own_base (own_set (own_set (own_set (own_set (own_set HO.out _ _ (by simp)) _ _ (by simp)) _ _ (by simp)) _ _ (by simp)) _ _ (by simp)) (by omega)

end Go.Proofs.YtbjlkdenkmbepaaGreatDoor

namespace Go.Proofs.YtbjlkdenkmbepaaGreatDoor
open Go.RowKit
set_option linter.unusedVariables false
set_option linter.unusedSimpArgs false

theorem rs_ownE {L : List Nat} {a b : World} {bs n : Nat} {v : Value} {e : TypeId} {size : Nat} {xs : List Value} (h : RS L a b) (ho : Own a bs e size v n xs) (h1 : ∀ x, v.ownBlock = some x → x ∉ L) : Own b bs e size v n xs := by
  refine ⟨ho.1, ?_⟩
  rcases ho.2 with hn | ⟨x, cap, cur, rfl, hbg, hgg, rest⟩
  · exact .inl hn
  · refine .inr ⟨x, cap, cur, rfl, hbg, ?_, rest⟩
    rw [h.block x (Array.getElem?_eq_some_iff.1 hgg).1 (h1 x rfl)]
    exact hgg
theorem is_grownE {a b : World} {row : Option Nat} {i : Nat} {C : Array Value} (h : Is a i C) (hg : a.grownBy b row) (hz : i < a.heap.size) (hn : some i ≠ row) : Is b i C := h.of_block (hg.block i hz hn)
/-- block d is a box that holds such an editor, whose row is neither g nor d. -/
def EBx (P : Es → Prop) (B g d : Nat) (w : World) : Prop := (B ≤ w.heap.size ∧ g < w.heap.size ∧ d < w.heap.size) ∧ ∃ e u, Is w d #[S e.s, .int .i64 e.x, S e.cl, u, .int .i64 e.pa] ∧ P e ∧ OwnM w B u e.ms ∧ u.ownBlock ≠ some g ∧ u.ownBlock ≠ some d
/-- the running fact of the draw of editors. -/
def ME (P : Es → Prop) (B g d n : Nat) (zs : List Int) (q k : Nat) (w : World) : Prop := MR g n zs q 100 k w ∧ EBx P B g d w
section
variable {P : Es → Prop} {B g d n q k : Nat} {zs : List Int} {w w' : World}
theorem EBx.weak (h : EBx EVal B g d w) : EBx EWk B g d w := by
  obtain ⟨h1, e, u, hI, hv, h2⟩ := h
  exact ⟨h1, e, u, hI, hv.weak, h2⟩
theorem EBx.kept (h : EBx P B g d w) (hb : w.grownBy w' (some g)) (hgd : g < d) : EBx P B g d w' := by
  obtain ⟨⟨h1, h2, h3⟩, e, u, hI, hv, ho, hng, hnd⟩ := h
  refine ⟨⟨Nat.le_trans h1 hb.size, Nat.lt_of_lt_of_le h2 hb.size, Nat.lt_of_lt_of_le h3 hb.size⟩, e, u, is_grownE hI hb h3 (fun e => by injection e; omega), hv, ho.kept hb ?_, hng, hnd⟩
  cases hu : u.ownBlock with
  | none => exact .inl rfl
  | some x => exact .inr fun e => hng (by rw [hu, e])
theorem EBx.below (h : EBx P B g d w) (hb : Below w.heap.size w w') : EBx P B g d w' := by
  obtain ⟨⟨h1, h2, h3⟩, e, u, hI, hv, ho, hng, hnd⟩ := h
  exact ⟨⟨Nat.le_trans h1 hb.size, Nat.lt_of_lt_of_le h2 hb.size, Nat.lt_of_lt_of_le h3 hb.size⟩, e, u, hI.up h3 hb, hv, own_up ho hb, hng, hnd⟩
theorem ME.next (h : ME P B g d n zs q k w) : ME P B g d n zs q (k + 1) w := ⟨h.1.next, h.2⟩
theorem ME.below (h : ME P B g d n zs q k w) (hb : Below w.heap.size w w') : ME P B g d n zs q k w' := by
  obtain ⟨⟨x, hx, hr⟩, h2⟩ := h
  exact ⟨⟨x, hx, hr.up hb⟩, h2.below hb⟩
theorem ME.alloc (h : ME P B g d n zs q k w) (o : Obj) : ME P B g d n zs q k (w.alloc o) := h.below (up_alloc (Below.refl _ _) o)
theorem ME.base_le (h : ME P B g d n zs q k w) : B ≤ w.heap.size := h.2.1.1
theorem ME.ne_new {u : Value} {ms : List Mo} {w2 : World} (h : ME P B g d n zs q k w) (ho : OwnM w2 w.heap.size u ms) : u.ownBlock ≠ some g ∧ u.ownBlock ≠ some d := by
  have h1 := h.2.1
  exact ⟨fun e => by have := (ho.lt _ e).1; omega, fun e => by have := (ho.lt _ e).1; omega⟩
theorem own_far5 {u : Value} {ms : List Mo} {r : Nat} (h : OwnM w B u ms) (hr : u.ownBlock ≠ some r) (v0 v1 v2 v3 v4 : Value) : OwnM (((((w.setCell ⟨r, 0, none⟩ v0).setCell ⟨r, 1, none⟩ v1).setCell ⟨r, 2, none⟩ v2).setCell ⟨r, 3, none⟩ v3).setCell ⟨r, 4, none⟩ v4) B u ms := by
  have s : ∀ {w : World} (i : Nat) (v : Value), OwnM w B u ms → OwnM (w.setCell ⟨r, i, none⟩ v) B u ms := fun i v h => own_setn h ⟨r, i, none⟩ v (fun x hx e => hr (by rw [hx, e]))
  exact s 4 v4 (s 3 v3 (s 2 v2 (s 1 v1 (s 0 v0 h))))
theorem eput_mk {e : Es} {u : Value} (hM : ME P B g d n zs q k w) (hv : P e) (ho : OwnM w B u e.ms) (hng : u.ownBlock ≠ some g) (hnd : u.ownBlock ≠ some d) (hgd : g < d) :
    RS [g, d] w (((((w.setCell ⟨d, 0, none⟩ (S e.s)).setCell ⟨d, 1, none⟩ (.int .i64 e.x)).setCell ⟨d, 2, none⟩ (S e.cl)).setCell ⟨d, 3, none⟩ u).setCell ⟨d, 4, none⟩ (.int .i64 e.pa)) ∧
    ME P B g d n zs q k (((((w.setCell ⟨d, 0, none⟩ (S e.s)).setCell ⟨d, 1, none⟩ (.int .i64 e.x)).setCell ⟨d, 2, none⟩ (S e.cl)).setCell ⟨d, 3, none⟩ u).setCell ⟨d, 4, none⟩ (.int .i64 e.pa)) := by
  obtain ⟨⟨x, hx, hr⟩, ⟨h1, h2, h3⟩, e', u', hI, -, -, -, -⟩ := hM
  have hs : (((((w.setCell ⟨d, 0, none⟩ (S e.s)).setCell ⟨d, 1, none⟩ (.int .i64 e.x)).setCell ⟨d, 2, none⟩ (S e.cl)).setCell ⟨d, 3, none⟩ u).setCell ⟨d, 4, none⟩ (.int .i64 e.pa)).heap.size = w.heap.size := by simp [World.setCell]
  have hI5 := is_all5 hI (S e.s) (.int .i64 e.x) (S e.cl) u (.int .i64 e.pa)
  have hO5 := own_far5 ho hnd (S e.s) (.int .i64 e.x) (S e.cl) u (.int .i64 e.pa)
  have hR5 := ((((((RS.refl [g, d] w).set ⟨d, 0, none⟩ (S e.s) (by simp)).set ⟨d, 1, none⟩ (.int .i64 e.x) (by simp)).set ⟨d, 2, none⟩ (S e.cl) (by simp)).set ⟨d, 3, none⟩ u (by simp)).set ⟨d, 4, none⟩ (.int .i64 e.pa) (by simp))
  have hB5 : Below (g + 1) w (((((w.setCell ⟨d, 0, none⟩ (S e.s)).setCell ⟨d, 1, none⟩ (.int .i64 e.x)).setCell ⟨d, 2, none⟩ (S e.cl)).setCell ⟨d, 3, none⟩ u).setCell ⟨d, 4, none⟩ (.int .i64 e.pa)) := by
    refine Below.setCell (Below.setCell (Below.setCell (Below.setCell (Below.setCell (Below.refl _ _) ?_ _) ?_ _) ?_ _) ?_ _) ?_ _ <;> (show g + 1 ≤ d; omega)
  generalize (((((w.setCell ⟨d, 0, none⟩ (S e.s)).setCell ⟨d, 1, none⟩ (.int .i64 e.x)).setCell ⟨d, 2, none⟩ (S e.cl)).setCell ⟨d, 3, none⟩ u).setCell ⟨d, 4, none⟩ (.int .i64 e.pa)) = W at *
  exact ⟨hR5, ⟨x, hx, Rdr.below hr hB5⟩, ⟨by rw [hs]; exact h1, by rw [hs]; exact h2, by rw [hs]; exact h3⟩, e, u, hI5, hv, hO5, hng, hnd⟩
theorem eset {i : Nat} {v : Value} (h : EBx EWk B g d w) (hr : Rdr w g n zs q) (hgd : g < d) (hi : i < 5) (e2 : Es → Es) (h2 : ∀ e, EWk e → EWk (e2 e) ∧ (e2 e).ms = e.ms) (hv : ∀ (e : Es) (u : Value), ((#[S e.s, .int .i64 e.x, S e.cl, u, .int .i64 e.pa] : Array Value).setIfInBounds i v) = #[S (e2 e).s, .int .i64 (e2 e).x, S (e2 e).cl, u, .int .i64 (e2 e).pa]) :
    EBx EWk B g d (w.setCell ⟨d, i, none⟩ v) ∧ Rdr (w.setCell ⟨d, i, none⟩ v) g n zs q := by
  obtain ⟨⟨h1, h3, h4⟩, e, u, hI, hw, ho, hng, hnd⟩ := h
  have hs : (w.setCell ⟨d, i, none⟩ v).heap.size = w.heap.size := by simp [World.setCell]
  have hI1 := is_setQ hI (i := i) (by simpa using hi) v
  rw [hv e u] at hI1
  refine ⟨⟨⟨by rw [hs]; exact h1, by rw [hs]; exact h3, by rw [hs]; exact h4⟩, e2 e, u, hI1, (h2 e hw).1, ?_, hng, hnd⟩, Rdr.below hr (Below.setCell (Below.refl _ _) (show g + 1 ≤ d by omega) _)⟩
  rw [(h2 e hw).2]
  exact own_setn ho ⟨d, i, none⟩ v (fun x hx e => hnd (by rw [hx, e]))
theorem eput1 (hM : ME EWk B g d n zs q k w) (y : Int) (hgd : g < d) : RS [g, d] w (w.setCell ⟨d, 1, none⟩ (.int .i64 y)) ∧ ME EWk B g d n zs q k (w.setCell ⟨d, 1, none⟩ (.int .i64 y)) := by
  obtain ⟨⟨x, hx, hr⟩, h⟩ := hM
  obtain ⟨h1, h2⟩ := eset (i := 1) (v := .int .i64 y) h hr hgd (by decide) (fun e => { e with x := y }) (fun e he => ⟨he, rfl⟩) (fun e u => by simp)
  exact ⟨(RS.refl _ w).set _ _ (by simp), ⟨x, hx, h2⟩, h1⟩
end
/-- a valid editor of the region's own. -/
def tEd (B g d : Nat) : Ty (RS [g, d]) := ⟨fun v w => ∃ e u, v = edW e u ∧ EVal e ∧ OwnM w B u e.ms ∧ u.ownBlock ≠ some g ∧ u.ownBlock ≠ some d,
  fun _ _ _ hR ⟨e, u, hv, h1, ho, h2, h3⟩ => ⟨e, u, hv, h1, rs_ownE hR ho (fun x hx hm => by
    simp only [List.mem_cons, List.not_mem_nil, or_false] at hm
    rcases hm with rfl | rfl
    · exact h2 hx
    · exact h3 hx), h2, h3⟩⟩
def tEdT (B g d : Nat) : Ty (RS [g, d]) := ⟨fun v w => ∃ e u ok, v = .tuple #[edW e u, .bool ok] ∧ EVal e ∧ OwnM w B u e.ms ∧ u.ownBlock ≠ some g ∧ u.ownBlock ≠ some d,
  fun _ _ _ hR ⟨e, u, ok, hv, h1, ho, h2, h3⟩ => ⟨e, u, ok, hv, h1, rs_ownE hR ho (fun x hx hm => by
    simp only [List.mem_cons, List.not_mem_nil, or_false] at hm
    rcases hm with rfl | rfl
    · exact h2 hx
    · exact h3 hx), h2, h3⟩⟩
def isBo2 (v : Value) : Prop := ∃ b : Bool, v = .bool b
theorem gb_all5 {w a : World} {g r : Nat} (h : w.grownBy a (some g)) (hr : w.heap.size ≤ r) (v0 v1 v2 v3 v4 : Value) : w.grownBy (((((a.setCell ⟨r, 0, none⟩ v0).setCell ⟨r, 1, none⟩ v1).setCell ⟨r, 2, none⟩ v2).setCell ⟨r, 3, none⟩ v3).setCell ⟨r, 4, none⟩ v4) (some g) := by
  have s : ∀ {a : World} (i : Nat) (v : Value), w.grownBy a (some g) → w.grownBy (a.setCell ⟨r, i, none⟩ v) (some g) := fun i v h => gb_set h ⟨r, i, none⟩ v hr
  exact s 4 v4 (s 3 v3 (s 2 v2 (s 1 v1 (s 0 v0 h))))
theorem rdr_one {a : World} {g n q d i : Nat} {zs : List Int} (h : Rdr a g n zs q) (hd : g < d) (v : Value) : Rdr (a.setCell ⟨d, i, none⟩ v) g n zs q := Rdr.below h (Below.setCell (Below.refl _ _) (show g + 1 ≤ d by omega) _)
theorem rdr_all5 {a : World} {g n q r : Nat} {zs : List Int} (h : Rdr a g n zs q) (hr : g < r) (v0 v1 v2 v3 v4 : Value) : Rdr (((((a.setCell ⟨r, 0, none⟩ v0).setCell ⟨r, 1, none⟩ v1).setCell ⟨r, 2, none⟩ v2).setCell ⟨r, 3, none⟩ v3).setCell ⟨r, 4, none⟩ v4) g n zs q :=
  rdr_one (rdr_one (rdr_one (rdr_one (rdr_one h hr v0) hr v1) hr v2) hr v3) hr v4
theorem len9 : ([9] : List UInt8).length ≤ 120 := by decide
theorem specEd_good (v : Value) (e : Es) (o : List (List UInt8)) (a : List UInt8) (w : World) (h : RdM w v e.ms) (hin : EdIn e o) (hl : a.length ≤ 1048576) :
    Calls Tryz.prog 19 #[edW e v, S a] w (fun en w' => ∃ e2 u2 ok, en = .returned (.tuple #[edW e2 u2, .bool ok]) ∧ EVal e2 ∧ OwnM w' w.heap.size u2 e2.ms ∧ Below w.heap.size w w') := by
  refine (specEditorDo_any v e o a w h hin hl).mono fun en w' ⟨u, h1, h2, h3⟩ => ?_
  cases hr : edDo e o (akOf a) with
  | none =>
    rw [hr] at h1 h2
    exact ⟨e, u, false, h1, ⟨o, hin⟩, h2, h3⟩
  | some e2 =>
    rw [hr] at h1 h2
    obtain ⟨o2, h4, _⟩ := edDo_next hin hr
    exact ⟨e2, u, true, h1, ⟨o2, h4⟩, h2, h3⟩
/-- a call that draws an editor. -/
def EdrPost (g n : Nat) (zs : List Int) (p : Nat) (w : World) (en : Ending) (w' : World) : Prop :=
  ∃ e u, en = .returned (edW e u) ∧ EWk e ∧ OwnM w' w.heap.size u e.ms ∧ (∃ q, q ≤ p + 30000 ∧ Rdr w' g n zs q) ∧ w.grownBy w' (some g)
theorem good_firstE {s : List UInt8} (h : tv s = true) : EdIn ⟨s, 0, [], [m0], 0⟩ [s] := ⟨good_one h, (by show (0 : Int) ≤ 0; decide), (by show (0 : Int) ≤ s.length; omega), (by show tv [] = true; decide)⟩
set_option maxRecDepth 100000 in
set_option maxHeartbeats 4000000 in
theorem l20Editor_any (g n : Nat) (zs : List Int) (p : Nat) (m : Int) (w : World) (hr : Rdr w g n zs p) (hp : p < 100000000) :
    Calls Tryz.prog 43 #[.pointer (some ⟨g, 0, none⟩), .int .i64 m] w (EdrPost g n zs p w) := by
  have hg := hr.lt
  unfold EdrPost
  have hW := World.grownBy.refl w (some g)
  go_enter Tryz.func43, Tryz.ntmps43
  go_wp2_with fail
  refine (l20Text0_any _ _ _ _ _ (hr.up (by exact bBel)) (by omega)).mono ?_
  rintro en w1 ⟨s, rfl, hs, ⟨q1, hq1, hr1⟩, hb⟩
  have hG : w.grownBy w1 (some g) := (by (repeat (first | exact World.grownBy.refl _ _ | assumption | refine gb_drew ?_ | refine gb_drewN ?_ _ | refine gb_alloc ?_ _ | refine gb_here ?_ rfl _ | refine gb_set ?_ _ _ (by first | exact Nat.le_refl _ | (simp; done) | (simp; omega) | omega) | refine gb_trans ?_ (by assumption) | refine gb_below ?_ (by assumption)))); have sw1 := hG.size; replace hW := gb_trans hW hG; clear hG
  have yc : ∀ o, w1.cell? ⟨w.heap.size, o, none⟩ = #[S [], .int .i64 0, S [], .slice none 0 0, .int .i64 0][o]? := gup_c hb (by simp <;> omega) (by omega) (fun o => by simp [go_sem]); have yf : ∀ o, w1.frozen? ⟨w.heap.size, o, none⟩ = false := gup_f hb (by simp <;> omega) (by omega) (fun o => by simp [go_sem]); have yz : w.heap.size < w1.heap.size := (by have := hb.size; (try simp at this); omega); have yy := yz
  have hw1 : w.heap.size < w1.heap.size := yz
  clear hb hr yy
  go_wp2_with fail
  refine (specEditorOf_good s _ hs).mono ?_
  rintro en w2 ⟨u, rfl, ho, hb⟩
  have hb2 : w1.grownBy w2 (some g) := by (repeat (first | exact World.grownBy.refl _ _ | assumption | refine gb_drew ?_ | refine gb_drewN ?_ _ | refine gb_alloc ?_ _ | refine gb_here ?_ rfl _ | refine gb_set ?_ _ _ (by first | exact Nat.le_refl _ | (simp; done) | (simp; omega) | omega) | refine gb_trans ?_ (by assumption) | refine gb_below ?_ (by assumption)))
  have hr2 := hr1.up hb
  have ho2 := own_base ho (show w.heap.size + 1 ≤ _ by omega)
  have hgy : ¬ w.heap.size = g := by omega
  have hG : w1.grownBy w2 (some g) := (by (repeat (first | exact World.grownBy.refl _ _ | assumption | refine gb_drew ?_ | refine gb_drewN ?_ _ | refine gb_alloc ?_ _ | refine gb_here ?_ rfl _ | refine gb_set ?_ _ _ (by first | exact Nat.le_refl _ | (simp; done) | (simp; omega) | omega) | refine gb_trans ?_ (by assumption) | refine gb_below ?_ (by assumption)))); replace yc := gup_c hG yz (by omega) yc; replace yf := gup_f hG yz (by omega) yf; replace yz := Nat.lt_of_lt_of_le yz hG.size; have sw2 := hG.size; replace hW := gb_trans hW hG; clear hG
  obtain ⟨A2, c2, rfl, -, -⟩ := (RdL.of_own (f := moC) (bs := [m0]) ho).form
  have hnd : (Value.slice A2 [m0].length c2).ownBlock ≠ some w2.heap.size := fun e => by have := (ho.lt _ e).2; omega
  have hng : (Value.slice A2 [m0].length c2).ownBlock ≠ some g := fun e => by have := (ho2.lt _ e).1; omega
  have TB := Lib.hid (show EBx EVal (w.heap.size + 1) g w2.heap.size (w2.alloc (.cells #[S s, .int .i64 0, S [], .slice A2 [m0].length c2, .int .i64 0] 27)) from ⟨⟨by simp; omega, by simp; omega, by simp⟩, ⟨s, 0, [], [m0], 0⟩, _, new_is w2 _ _, ⟨[s], good_firstE hs⟩, ho2.alloc _, hng, hnd⟩)
  clear hb ho ho2 hnd hng hr1 hb2 hs
  unfold edAgg
  simp only [List.length_cons, List.length_nil, Nat.zero_add] at TB ⊢
  go_upto_region 2 with (fail)
  obtain ⟨w3, hw3⟩ : ∃ z, z = w2.alloc (.cells #[S s, .int .i64 0, S [], .slice A2 1 c2, .int .i64 0] 27) := ⟨_, rfl⟩
  rw [← hw3] at TB ⊢
  have hb3 : w2.grownBy w3 (some g) := by rw [hw3]; exact World.grownBy_alloc _ _ _
  have hr3 : Rdr w3 g n zs q1 := by rw [hw3]; exact hr2.alloc _
  have hG : w2.grownBy w3 (some g) := (by (repeat (first | exact World.grownBy.refl _ _ | assumption | refine gb_drew ?_ | refine gb_drewN ?_ _ | refine gb_alloc ?_ _ | refine gb_here ?_ rfl _ | refine gb_set ?_ _ _ (by first | exact Nat.le_refl _ | (simp; done) | (simp; omega) | omega) | refine gb_trans ?_ (by assumption) | refine gb_below ?_ (by assumption)))); replace yc := gup_c hG yz (by omega) yc; replace yf := gup_f hG yz (by omega) yf; replace yz := Nat.lt_of_lt_of_le yz hG.size; have sw3 := hG.size; replace hW := gb_trans hW hG; clear hG
  clear hw3 hr2 hb3
  obtain ⟨d, hd⟩ : ∃ d, d = w2.heap.size := ⟨_, rfl⟩
  rw [← hd] at TB ⊢
  have hwd : w.heap.size < d := by omega
  have hgd : g < d := by omega
  have HR3 := Lib.hid hr3
  have HW3 := Lib.hid hW
  have HY := Lib.hid (show Is w3 w.heap.size #[S [], .int .i64 0, S [], .slice none 0 0, .int .i64 0] from ⟨yc, yf⟩)
  clear hr3 hW yc yf hd sw1 sw2 sw3
  obtain ⟨B0, hB0⟩ : ∃ z, z = w.heap.size + 1 := ⟨_, rfl⟩
  rw [← hB0] at TB
  have hB0w : w.heap.size < B0 := by omega
  have hwdl : w.heap.size ≤ d := by omega
  clear hB0
  go_wp2_with fail
  refine (pick_any _ _ _ _ _ _ HR3.out (by omega)).mono ?_
  rintro en w4 ⟨kk, rfl, h1, h2, hr4, hb⟩
  have hk := h1 (by omega)
  have TB4 := Lib.hid (TB.out.kept hb hgd)
  have HY4 := Lib.hid (is_grownE HY.out hb yz (fun e => by injection e; omega))
  have HW4 := Lib.hid (gb_trans HW3.out hb)
  have HR4 := Lib.hid hr4
  have hz4 := Nat.lt_of_lt_of_le yz hb.size
  obtain ⟨k0, rfl⟩ : ∃ k0 : Nat, kk = k0 := ⟨kk.toNat, by omega⟩
  clear h1 h2 hr4 hb HR3 TB HY HW3 yz
  go_wp2_with fail
  go_loopw [6] (fun i wr => ∃ (k qq : Nat), k ≤ 8 ∧ i = .int .i64 k ∧ qq ≤ q1 + 1 + 1000 * (8 - k) ∧ Hid (Rdr wr g n zs qq) ∧ Hid (EBx EVal B0 g d wr) ∧ Hid (Is wr w.heap.size #[S [], .int .i64 0, S [], .slice none 0 0, .int .i64 0]) ∧ Hid (w.grownBy wr (some g)) ∧ w.heap.size < wr.heap.size) (fun i _ => (intOf i).toNat)
  case atStart => exact ⟨k0, q1 + 1, by omega, rfl, by omega, HR4, TB4, HY4, HW4, hz4⟩
  case round =>
    obtain ⟨k, qq, hk6, rfl, hqq, HR, TB, HYr, HWr, hzr⟩ := hrel
    clear HR4 TB4 HY4 HW4 hz4 hk
    by_cases hlt : 0 < k
    · have i1 : (0 : Int) < (k : Int) := by omega
      go_upto_region 5 with (fail)
      have MM : ME EVal B0 g d n zs qq 0 wr.drew := ⟨⟨qq, by omega, HR.out.up (Below.drew (Below.refl _ _))⟩, TB.out.below (Below.drew (Below.refl _ _))⟩
      --EVER{spec.l20Editor;5;l20e5}
      refine wp_region_ever (R := RS [g, d]) (M := fun k w => ME EVal B0 g d n zs qq k w) [tEd B0 g d, tEq _ (.pointer (some ⟨g, 0, none⟩)), tOf _ (isS 100), tEdT B0 g d, tEdT B0 g d, tEd B0 g d, tOf _ isBo2, tyAny _] (by kernel_rfl) (RS.refl _) (fun _ _ _ => RS.trans) (by kernel_rfl) (MM) ?_ ?_
      · refine ⟨?_, ?_, ?_, ?_, ?_, ?_, ?_, ?_, trivial⟩
        · intro k' w' ρ hk' hR hM hF
          replace hk' : k' < 8 := hk'
          obtain ⟨f0, -⟩ := hF
          replace f0 : ρ (.tmp 5) = .pointer (some ⟨d, 0, none⟩) := f0
          refine good_of fun K hK => ?_
          have HM := Lib.hid hM; obtain ⟨-, -, e, u, hI, hin, ho, hng, hnd⟩ := hM; have z0 := hI.1 0; have z1 := hI.1 1; have z2 := hI.1 2; have z3 := hI.1 3; have z4 := hI.1 4; simp only [List.getElem?_toArray, List.getElem?_cons_zero, List.getElem?_cons_succ] at z0 z1 z2 z3 z4; have Q := Lib.hid (And.intro hin (And.intro ho (And.intro hng hnd))); clear hI hin ho hng hnd; go_simp; exact hK _ _ (RS.refl _ _) HM.out.next ⟨e, u, rfl, Q.out⟩
        · intro k' w' ρ hk' hR hM hF
          replace hk' : k' < 8 := hk'
          obtain ⟨f0, -⟩ := hF
          replace f0 : ρ (.tmp 0) = .pointer (some ⟨g, 0, none⟩) := f0
          exact ⟨RS.refl _ _, hM.next, f0⟩
        · intro k' w' ρ hk' hR hM hF
          replace hk' : k' < 8 := hk'
          obtain ⟨f0, f1, f2, -⟩ := hF
          replace f0 : ρ (.func _) = .func (.func _) #[] #[] := f0
          replace f1 : ρ (.tmp 18) = .pointer (some ⟨g, 0, none⟩) := f1
          replace f2 : ρ (.const (.int .i64 0)) = .int .i64 0 := f2
          refine good_of fun K hK => ?_
          have HM := Lib.hid hM; obtain ⟨⟨q, hq, hr⟩, -⟩ := hM; have HR := Lib.hid hr; clear hr; go_simp; refine (l20Action_any g n zs q 0 _ HR.out (by omega)).mono ?_; rintro en wc ⟨s, rfl, hs, ⟨q', hq', hr'⟩, hb⟩; exact ⟨_, rfl, hK _ _ ((RS.refl _ _).grown hb (by intro x hx; injection hx with hx; exact .inl (by simp [hx]))) ⟨⟨q', by rw [Nat.mul_add]; omega, hr'⟩, HM.out.2.kept hb hgd⟩ ⟨s, rfl, hs⟩⟩
        · intro k' w' ρ hk' hR hM hF
          replace hk' : k' < 8 := hk'
          obtain ⟨f0, f1, f2, -⟩ := hF
          replace f0 : ρ (.func _) = .func (.func _) #[] #[] := f0
          refine good_of fun K hK => ?_
          have HM := Lib.hid hM; clear hM; obtain ⟨e, u, f1, ⟨o, hin⟩, ho, hng, hnd⟩ := f1; replace f1 : ρ (.tmp 17) = .agg #[S e.s, .int .i64 e.x, S e.cl, u, .int .i64 e.pa] := f1; obtain ⟨s, f2, hs⟩ := f2; replace f2 : ρ (.tmp 19) = S s := f2; have Q := Lib.hid (And.intro hin (rdM_good ho hin.g)); clear hin ho hng hnd; go_simp; refine (specEd_good u e o s _ Q.out.2 Q.out.1 (by omega)).mono ?_; rintro en wc ⟨e2, u2, ok, rfl, hin2, ho2, hb⟩; exact ⟨_, rfl, hK _ _ ((RS.refl _ _).below hb) (HM.out.below hb).next ⟨e2, u2, ok, rfl, hin2, own_base ho2 HM.out.base_le, HM.out.ne_new ho2⟩⟩
        · intro k' w' ρ hk' hR hM hF
          replace hk' : k' < 8 := hk'
          obtain ⟨f0, -⟩ := hF
          exact ⟨RS.refl _ _, hM.next, f0⟩
        · intro k' w' ρ hk' hR hM hF
          replace hk' : k' < 8 := hk'
          obtain ⟨f0, -⟩ := hF
          refine good_of fun K hK => ?_
          have HM := Lib.hid hM; clear hM; obtain ⟨e, u, ok, f0, h1⟩ := f0; replace f0 : ρ (.tmp 16) = .tuple #[.agg #[S e.s, .int .i64 e.x, S e.cl, u, .int .i64 e.pa], .bool ok] := f0; have Q := Lib.hid h1; clear h1; go_simp; exact hK _ _ (RS.refl _ _) HM.out.next ⟨e, u, rfl, Q.out⟩
        · intro k' w' ρ hk' hR hM hF
          replace hk' : k' < 8 := hk'
          obtain ⟨f0, -⟩ := hF
          refine good_of fun K hK => ?_
          have HM := Lib.hid hM; clear hM; obtain ⟨e, u, ok, f0, h1⟩ := f0; replace f0 : ρ (.tmp 16) = .tuple #[.agg #[S e.s, .int .i64 e.x, S e.cl, u, .int .i64 e.pa], .bool ok] := f0; clear h1; go_simp; exact hK _ _ (RS.refl _ _) HM.out.next ⟨ok, rfl⟩
        · intro k' w' ρ hk' hR hM hF
          replace hk' : k' < 8 := hk'
          obtain ⟨f0, f1, -⟩ := hF
          replace f0 : ρ (.tmp 5) = .pointer (some ⟨d, 0, none⟩) := f0
          refine good_of fun K hK => ?_
          obtain ⟨e, u, f1, hin, ho, hng, hnd⟩ := f1; obtain ⟨A1, c1, rfl, -, -⟩ := (RdL.of_own (f := moC) (bs := e.ms) ho).form; replace f1 : ρ (.tmp 21) = .agg #[S e.s, .int .i64 e.x, S e.cl, .slice A1 e.ms.length c1, .int .i64 e.pa] := f1; have BB := Lib.hid (eput_mk hM hin ho hng hnd hgd); obtain ⟨-, -, e', u', hI, -⟩ := hM; have z0 := hI.1 0; have z1 := hI.1 1; have z2 := hI.1 2; have z3 := hI.1 3; have z4 := hI.1 4; have qf := hI.2; simp only [List.getElem?_toArray, List.getElem?_cons_zero, List.getElem?_cons_succ] at z0 z1 z2 z3 z4; clear hI hin ho hng hnd; go_simp; exact hK _ _ BB.out.1 BB.out.2.next trivial
      · intro w' hR hM
        rintro _ ⟨_, _, rfl, -⟩
        rintro _ rfl
        rintro _ ⟨v2, rfl, hi2⟩
        rintro _ ⟨_, _, _, rfl, -⟩
        rintro _ ⟨_, _, _, rfl, -⟩
        rintro _ ⟨_, _, rfl, -⟩
        rintro _ ⟨_, rfl⟩
        rintro _ -
      --END
      --END
        dsimp only [EndAll, Act.put]
        simp only [List.setIfInBounds_toArray, List.set_cons_zero, List.set_cons_succ]
        obtain ⟨w6, rfl⟩ : ∃ z, z = w' := ⟨_, rfl⟩
        have hR0 := hR.of_drew
        obtain ⟨⟨q6, hq6, hr6⟩, TB6⟩ := hM
        replace hq6 : q6 ≤ qq + 800 := hq6
        have TB6 := Lib.hid TB6
        have HR6 := Lib.hid hr6
        have HY6 := Lib.hid (HYr.out.of_block (hR0.block _ hzr (by simp; omega)))
        have HW6 := Lib.hid (show w.grownBy w6 (some g) from ⟨hR0.os.trans HWr.out.os, hR0.tape.trans HWr.out.tape, hR0.output.trans HWr.out.output, Nat.le_trans HWr.out.size hR0.size, fun i hi hn => (hR0.block i (Nat.lt_of_lt_of_le hi HWr.out.size) (by simp only [List.mem_cons, List.not_mem_nil, or_false]; rintro (rfl | rfl); exact hn rfl; omega)).trans (HWr.out.block i hi hn)⟩)
        have hz6 := Nat.lt_of_lt_of_le hzr hR0.size
        clear hR hR0 hr6 HR TB HYr HWr hzr MM
        go_wp2_with fail
        go_roundw
        case rel => exact ⟨k - 1, q6, by omega, by first | (rw [show ((k - 1 : Nat) : Int) = (k : Int) - 1 by omega]; done) | (rw [show ((k - 1 : Nat) : Int) = (k : Int) - 1 by omega]; go_num), by omega, HR6, TB6, HY6, HW6, hz6⟩
        case measure => simp [intOf]; omega
    · obtain rfl : k = 0 := by omega
      have EB := Lib.hid TB.out.weak
      clear TB
      go_wp2_with fail
      refine (odd_any _ _ _ _ _ _ HR.out (by omega)).mono ?_
      rintro en w7 ⟨x7, rfl, ⟨q7, hq7, hr7⟩, hb⟩
      have HY := Lib.hid (is_grownE HYr.out hb hzr (fun e => by injection e; omega))
      have HW := Lib.hid (gb_trans HWr.out hb)
      replace EB := Lib.hid (EB.out.kept hb hgd)
      replace hzr := Nat.lt_of_lt_of_le hzr hb.size
      replace HR := Lib.hid hr7
      clear hb hr7 HYr HWr
      rcases x7 with _ | _
      · obtain ⟨qE, hqE⟩ : ∃ qE, qE = q7 := ⟨_, rfl⟩
        rw [← hqE] at HR
        obtain ⟨⟨hb0, hg0, hd0⟩, ed, u, hI, hwk, ho, hng, hnd⟩ := EB.out
        obtain ⟨s, x, cl, ms, pa⟩ := ed
        obtain ⟨A, c, rfl, -, -⟩ := (RdL.of_own (f := moC) (bs := ms) ho).form
        have HO := Lib.hid ho
        have HND := Lib.hid (show ∀ y, (Value.slice A ms.length c).ownBlock = some y → y ≠ d from fun y hy e => hnd (by rw [hy, e]))
        have HK := Lib.hid hwk
        have hr := HR.out
        have hW := HW.out
        have xc := hI.1
        have xf := hI.2
        obtain ⟨yc, yf⟩ := HY.out
        have hdy : ¬ d = w.heap.size := by omega
        have hyd : ¬ w.heap.size = d := by omega
        simp only at xc
        have HRR := Lib.hid (rdr_all5 (r := w.heap.size) (hr) (by omega) (S s) (.int .i64 x) (S cl) (.slice A ms.length c) (.int .i64 pa))
        have HGG := Lib.hid (gb_all5 (r := w.heap.size) (hW) (Nat.le_refl _) (S s) (.int .i64 x) (S cl) (.slice A ms.length c) (.int .i64 pa))
        have HOO := Lib.hid (own_base (own_all5 (r := w.heap.size) (HO.out) hB0w (S s) (.int .i64 x) (S cl) (.slice A ms.length c) (.int .i64 pa)) (show w.heap.size ≤ B0 by omega))
        clear EB HR HW HY hI ho hng hnd hwk hr hW
        go_wp2_with fail
        refine bodyPost_ret (v := .agg #[S s, .int .i64 x, S cl, .slice A ms.length c, .int .i64 pa]) (by simp [results, Tryz.results43, go_sem, yc]) rfl ⟨⟨s, x, cl, ms, pa⟩, .slice A ms.length c, rfl, HK.out, HOO.out, ⟨qE, by omega, HRR.out⟩, HGG.out⟩
      · go_wp2_with fail
        refine (pick_any _ _ _ _ _ _ HR.out (by omega)).mono ?_
        rintro en w8 ⟨x8, rfl, h1, h2, hr8, hb⟩
        have hx8 := h1 (by omega)
        replace HY := Lib.hid (is_grownE HY.out hb hzr (fun e => by injection e; omega))
        replace HW := Lib.hid (gb_trans HW.out hb)
        replace EB := Lib.hid (EB.out.kept hb hgd)
        replace hzr := Nat.lt_of_lt_of_le hzr hb.size
        replace HR := Lib.hid hr8
        clear hb hr8 h1 h2
        by_cases e0 : x8 = 0
        · subst e0
          obtain ⟨qq8, hqq8⟩ : ∃ qq8, qq8 = q7 + 1 := ⟨_, rfl⟩
          rw [← hqq8] at HR
          go_upto_region 10 with (fail)
          have MM : ME EWk B0 g d n zs qq8 0 w8.drew := ⟨⟨qq8, by omega, HR.out.up (Below.drew (Below.refl _ _))⟩, EB.out.below (Below.drew (Below.refl _ _))⟩
          --EVER{spec.l20Editor;10;l20e10}
          refine wp_region_ever (R := RS [g, d]) (M := fun k w => ME EWk B0 g d n zs qq8 k w) [tEq _ (.pointer (some ⟨d, 0, none⟩)), tOf _ (isS 120), tOf _ (isI (0) (120)), tOf _ (isI (1) (121)), tRow _ (isI (-1) (121)) 2, tEq _ (.pointer (some ⟨g, 0, none⟩)), tOf _ (isI (0) (1)), tPtr _ (isI (-1) (121)), tOf _ (isI (-1) (121)), tEq _ (.pointer (some ⟨d, 1, none⟩)), tyAny _] (by kernel_rfl) (RS.refl _) (fun _ _ _ => RS.trans) (by kernel_rfl) (MM) ?_ ?_
          · refine ⟨?_, ?_, ?_, ?_, ?_, ?_, ?_, ?_, ?_, ?_, ?_, trivial⟩
            · intro k' w' ρ hk' hR hM hF
              replace hk' : k' < 11 := hk'
              obtain ⟨f0, -⟩ := hF
              replace f0 : ρ (.tmp 5) = .pointer (some ⟨d, 0, none⟩) := f0
              refine good_of fun K hK => ?_
              go_simp
              exact hK _ _ (RS.refl _ _) (hM.next) (rfl)
            · intro k' w' ρ hk' hR hM hF
              replace hk' : k' < 11 := hk'
              obtain ⟨f0, -⟩ := hF
              replace f0 : ρ (.tmp 36) = .pointer (some ⟨d, 0, none⟩) := f0
              refine good_of fun K hK => ?_
              have HM := Lib.hid hM; obtain ⟨-, -, e, u, hI, hin, ho, hng, hnd⟩ := hM; have z0 := hI.1 0; simp only [List.getElem?_toArray, List.getElem?_cons_zero, List.getElem?_cons_succ] at z0; have Q := Lib.hid hin.1; clear hI hin ho hng hnd; go_simp; exact hK _ _ (RS.refl _ _) HM.out.next ⟨e.s, rfl, Q.out⟩
            · intro k' w' ρ hk' hR hM hF
              replace hk' : k' < 11 := hk'
              obtain ⟨f0, -⟩ := hF
              refine good_of fun K hK => ?_
              obtain ⟨x0, f0, hi0⟩ := f0; replace f0 : ρ (.tmp 37) = S x0 := f0; go_simp; exact hK _ _ (RS.refl _ _) hM.next ⟨_, rfl, by omega, by omega⟩
            · intro k' w' ρ hk' hR hM hF
              replace hk' : k' < 11 := hk'
              obtain ⟨f0, f1, -⟩ := hF
              replace f1 : ρ (.const (.int .i64 1)) = .int .i64 1 := f1
              refine good_of fun K hK => ?_
              obtain ⟨x0, f0, lo0, hi0⟩ := f0; replace f0 : ρ (.tmp 38) = .int .i64 x0 := f0; have a1 : IntKind.i64.wrap (x0 + 1) = x0 + 1 := (by rw [IntWalk.i64_in _ (by omega)]); go_simp; exact hK _ _ (RS.refl _ _) hM.next ⟨x0 + 1, rfl, by omega, by omega⟩
            · intro k' w' ρ hk' hR hM hF
              replace hk' : k' < 11 := hk'
              obtain ⟨f0, f1, -⟩ := hF
              replace f0 : ρ (.const (.int .i64 (-1))) = .int .i64 (-1) := f0
              obtain ⟨x1, f1, lo1, hi1⟩ := f1
              replace f1 : ρ (.tmp 39) = .int .i64 x1 := f1
              have bnew : w'.heap.size ∉ [g, d] := (by have h1 := hM.2.1; simp; omega)
              refine good_of fun K hK => ?_
              go_simp
              refine hK _ _ ((RS.refl _ _).alloc _) ((hM.alloc _).next) ⟨w'.heap.size, rfl, bnew, by simp, fun j hj => row_new w' _ _ _ ?_ j hj⟩
              intro x hx; simp only [List.mem_cons, List.not_mem_nil, or_false] at hx
              rcases hx with rfl | rfl
              · exact ⟨_, rfl, by omega, by omega⟩
              · exact ⟨x1, rfl, by omega, by omega⟩
            · intro k' w' ρ hk' hR hM hF
              replace hk' : k' < 11 := hk'
              obtain ⟨f0, -⟩ := hF
              replace f0 : ρ (.tmp 0) = .pointer (some ⟨g, 0, none⟩) := f0
              exact ⟨RS.refl _ _, hM.next, f0⟩
            · intro k' w' ρ hk' hR hM hF
              replace hk' : k' < 11 := hk'
              obtain ⟨f0, f1, f2, -⟩ := hF
              replace f0 : ρ (.func _) = .func (.func _) #[] #[] := f0
              replace f1 : ρ (.tmp 41) = .pointer (some ⟨g, 0, none⟩) := f1
              replace f2 : ρ (.const (.int .i64 2)) = .int .i64 2 := f2
              refine good_of fun K hK => ?_
              have HM := Lib.hid hM; obtain ⟨⟨q, hq, hr⟩, -⟩ := hM; have HR := Lib.hid hr; clear hr; go_simp; refine (pick_any _ _ _ _ _ _ HR.out (by omega)).mono ?_; rintro en w4 ⟨x, rfl, h1, -, hr4, hb⟩; have hx := h1 (by omega); exact ⟨_, rfl, hK _ _ ((RS.refl _ _).grown hb (by intro x hx; injection hx with hx; exact .inl (by simp [hx]))) ⟨⟨q + 1, by rw [Nat.mul_add]; omega, hr4⟩, HM.out.2.kept hb hgd⟩ ⟨x, rfl, by omega, by omega⟩⟩
            · intro k' w' ρ hk' hR hM hF
              replace hk' : k' < 11 := hk'
              obtain ⟨f0, f1, -⟩ := hF
              obtain ⟨b0, f0, bn0, bz0, bc0⟩ := f0
              replace f0 : ρ (.tmp 40) = .slice (some ⟨b0, 0, none⟩) 2 2 := f0
              obtain ⟨x1, f1, lo1, hi1⟩ := f1
              replace f1 : ρ (.tmp 42) = .int .i64 x1 := f1
              obtain ⟨u, hu, he⟩ := bc0 x1.toNat (by omega)
              clear bc0
              have ix0 : 0 ≤ x1 := by omega
              have ix1 : x1 < 2 := by omega
              refine good_of fun K hK => ?_
              go_simp
              exact hK _ _ (RS.refl _ _) (hM.next) ⟨b0, _, rfl, bn0, bz0, u, hu, he⟩
            · intro k' w' ρ hk' hR hM hF
              replace hk' : k' < 11 := hk'
              obtain ⟨f0, -⟩ := hF
              obtain ⟨b0, o0, f0, bn0, bz0, u0, bc0, be0⟩ := f0
              replace f0 : ρ (.tmp 43) = .pointer (some ⟨b0, o0, none⟩) := f0
              refine good_of fun K hK => ?_
              go_simp
              exact hK _ _ (RS.refl _ _) (hM.next) be0
            · intro k' w' ρ hk' hR hM hF
              replace hk' : k' < 11 := hk'
              obtain ⟨f0, -⟩ := hF
              replace f0 : ρ (.tmp 5) = .pointer (some ⟨d, 0, none⟩) := f0
              refine good_of fun K hK => ?_
              go_simp
              exact hK _ _ (RS.refl _ _) (hM.next) (rfl)
            · intro k' w' ρ hk' hR hM hF
              replace hk' : k' < 11 := hk'
              obtain ⟨f0, f1, -⟩ := hF
              replace f0 : ρ (.tmp 45) = .pointer (some ⟨d, 1, none⟩) := f0
              refine good_of fun K hK => ?_
              obtain ⟨x1, f1, lo1, hi1⟩ := f1; replace f1 : ρ (.tmp 44) = .int .i64 x1 := f1; have BB := Lib.hid (eput1 hM x1 hgd); obtain ⟨-, -, e', u', hI, -⟩ := hM; have z0 := hI.1 0; have z1 := hI.1 1; have qf := hI.2; simp only [List.getElem?_toArray, List.getElem?_cons_zero, List.getElem?_cons_succ] at z0 z1; clear hI; go_simp; exact hK _ _ BB.out.1 BB.out.2.next trivial
          · intro w' hR hM
            rintro _ rfl
            rintro _ ⟨v1, rfl, hi1⟩
            rintro _ ⟨v2, rfl, lo2, hi2⟩
            rintro _ ⟨v3, rfl, lo3, hi3⟩
            rintro _ ⟨_, rfl, -, -, -⟩
            rintro _ rfl
            rintro _ ⟨v6, rfl, lo6, hi6⟩
            rintro _ ⟨_, _, rfl, -, -, -⟩
            rintro _ ⟨v8, rfl, lo8, hi8⟩
            rintro _ rfl
            rintro _ -
          --END
          --END
            dsimp only [EndAll, Act.put]
            simp only [List.setIfInBounds_toArray, List.set_cons_zero, List.set_cons_succ]
            obtain ⟨w9, rfl⟩ : ∃ z, z = w' := ⟨_, rfl⟩
            have hR0 := hR.of_drew
            obtain ⟨⟨qE, hqE, hr9⟩, EB9⟩ := hM
            replace hqE : qE ≤ qq8 + 1100 := hqE
            replace EB := Lib.hid EB9
            replace HR := Lib.hid hr9
            replace HY := Lib.hid (HY.out.of_block (hR0.block _ hzr (by simp; omega)))
            replace HW := Lib.hid (show w.grownBy w9 (some g) from ⟨hR0.os.trans HW.out.os, hR0.tape.trans HW.out.tape, hR0.output.trans HW.out.output, Nat.le_trans HW.out.size hR0.size, fun i hi hn => (hR0.block i (Nat.lt_of_lt_of_le hi HW.out.size) (by simp only [List.mem_cons, List.not_mem_nil, or_false]; rintro (rfl | rfl); exact hn rfl; omega)).trans (HW.out.block i hi hn)⟩)
            replace hzr := Nat.lt_of_lt_of_le hzr hR0.size
            clear hR hR0 hr9 EB9 MM
            obtain ⟨⟨hb0, hg0, hd0⟩, ed, u, hI, hwk, ho, hng, hnd⟩ := EB.out
            obtain ⟨s, x, cl, ms, pa⟩ := ed
            obtain ⟨A, c, rfl, -, -⟩ := (RdL.of_own (f := moC) (bs := ms) ho).form
            have HO := Lib.hid ho
            have HND := Lib.hid (show ∀ y, (Value.slice A ms.length c).ownBlock = some y → y ≠ d from fun y hy e => hnd (by rw [hy, e]))
            have HK := Lib.hid hwk
            have hr := HR.out
            have hW := HW.out
            have xc := hI.1
            have xf := hI.2
            obtain ⟨yc, yf⟩ := HY.out
            have hdy : ¬ d = w.heap.size := by omega
            have hyd : ¬ w.heap.size = d := by omega
            simp only at xc
            have HRR := Lib.hid (rdr_all5 (r := w.heap.size) (hr) (by omega) (S s) (.int .i64 x) (S cl) (.slice A ms.length c) (.int .i64 pa))
            have HGG := Lib.hid (gb_all5 (r := w.heap.size) (hW) (Nat.le_refl _) (S s) (.int .i64 x) (S cl) (.slice A ms.length c) (.int .i64 pa))
            have HOO := Lib.hid (own_base (own_all5 (r := w.heap.size) (HO.out) hB0w (S s) (.int .i64 x) (S cl) (.slice A ms.length c) (.int .i64 pa)) (show w.heap.size ≤ B0 by omega))
            clear EB HR HW HY hI ho hng hnd hwk hr hW
            go_wp2_with fail
            refine bodyPost_ret (v := .agg #[S s, .int .i64 x, S cl, .slice A ms.length c, .int .i64 pa]) (by simp [results, Tryz.results43, go_sem, yc]) rfl ⟨⟨s, x, cl, ms, pa⟩, .slice A ms.length c, rfl, HK.out, HOO.out, ⟨qE, by omega, HRR.out⟩, HGG.out⟩
        by_cases e1 : x8 = 1
        · subst e1
          obtain ⟨qE, hqE⟩ : ∃ qE, qE = q7 + 1 := ⟨_, rfl⟩
          rw [← hqE] at HR
          obtain ⟨⟨hb0, hg0, hd0⟩, ed, u, hI, hwk, ho, hng, hnd⟩ := EB.out
          obtain ⟨s, x, cl, ms, pa⟩ := ed
          obtain ⟨A, c, rfl, -, -⟩ := (RdL.of_own (f := moC) (bs := ms) ho).form
          have HO := Lib.hid ho
          have HND := Lib.hid (show ∀ y, (Value.slice A ms.length c).ownBlock = some y → y ≠ d from fun y hy e => hnd (by rw [hy, e]))
          have HK := Lib.hid hwk
          have hr := HR.out
          have hW := HW.out
          have xc := hI.1
          have xf := hI.2
          obtain ⟨yc, yf⟩ := HY.out
          have hdy : ¬ d = w.heap.size := by omega
          have hyd : ¬ w.heap.size = d := by omega
          simp only at xc
          have HRR := Lib.hid (rdr_all5 (r := w.heap.size) (rdr_one (i := 2) hr hgd (S [9])) (by omega) (S s) (.int .i64 x) (S [9]) (.slice A ms.length c) (.int .i64 pa))
          have HGG := Lib.hid (gb_all5 (r := w.heap.size) (gb_set hW ⟨d, 2, none⟩ (S [9]) hwdl) (Nat.le_refl _) (S s) (.int .i64 x) (S [9]) (.slice A ms.length c) (.int .i64 pa))
          have HOO := Lib.hid (own_base (own_all5 (r := w.heap.size) (own_setn HO.out ⟨d, 2, none⟩ (S [9]) HND.out) hB0w (S s) (.int .i64 x) (S [9]) (.slice A ms.length c) (.int .i64 pa)) (show w.heap.size ≤ B0 by omega))
          clear EB HR HW HY hI ho hng hnd hwk hr hW
          go_wp2_with fail
          refine bodyPost_ret (v := .agg #[S s, .int .i64 x, S [9], .slice A ms.length c, .int .i64 pa]) (by simp [results, Tryz.results43, go_sem, yc]) rfl ⟨⟨s, x, [9], ms, pa⟩, .slice A ms.length c, rfl, ⟨HK.out.1, len9, HK.out.2.2⟩, HOO.out, ⟨qE, by omega, HRR.out⟩, HGG.out⟩
        have hx5 : x8 = 2 := by omega
        subst hx5
        clear e0 e1
        obtain ⟨qE, hqE⟩ : ∃ qE, qE = q7 + 1 := ⟨_, rfl⟩
        rw [← hqE] at HR
        obtain ⟨⟨hb0, hg0, hd0⟩, ed, u, hI, hwk, ho, hng, hnd⟩ := EB.out
        obtain ⟨s, x, cl, ms, pa⟩ := ed
        obtain ⟨A, c, rfl, -, -⟩ := (RdL.of_own (f := moC) (bs := ms) ho).form
        have HO := Lib.hid ho
        have HND := Lib.hid (show ∀ y, (Value.slice A ms.length c).ownBlock = some y → y ≠ d from fun y hy e => hnd (by rw [hy, e]))
        have HK := Lib.hid hwk
        have hr := HR.out
        have hW := HW.out
        have xc := hI.1
        have xf := hI.2
        obtain ⟨yc, yf⟩ := HY.out
        have hdy : ¬ d = w.heap.size := by omega
        have hyd : ¬ w.heap.size = d := by omega
        simp only at xc
        have HRR := Lib.hid (rdr_all5 (r := w.heap.size) (rdr_one (i := 4) hr hgd (.int .i64 (ms.length : Int))) (by omega) (S s) (.int .i64 x) (S cl) (.slice A ms.length c) (.int .i64 (ms.length : Int)))
        have HGG := Lib.hid (gb_all5 (r := w.heap.size) (gb_set hW ⟨d, 4, none⟩ (.int .i64 (ms.length : Int)) hwdl) (Nat.le_refl _) (S s) (.int .i64 x) (S cl) (.slice A ms.length c) (.int .i64 (ms.length : Int)))
        have HOO := Lib.hid (own_base (own_all5 (r := w.heap.size) (own_setn HO.out ⟨d, 4, none⟩ (.int .i64 (ms.length : Int)) HND.out) hB0w (S s) (.int .i64 x) (S cl) (.slice A ms.length c) (.int .i64 (ms.length : Int))) (show w.heap.size ≤ B0 by omega))
        clear EB HR HW HY hI ho hng hnd hwk hr hW
        go_wp2_with fail
        refine bodyPost_ret (v := .agg #[S s, .int .i64 x, S cl, .slice A ms.length c, .int .i64 (ms.length : Int)]) (by simp [results, Tryz.results43, go_sem, yc]) rfl ⟨⟨s, x, cl, ms, (ms.length : Int)⟩, .slice A ms.length c, rfl, HK.out, HOO.out, ⟨qE, by omega, HRR.out⟩, HGG.out⟩

end Go.Proofs.YtbjlkdenkmbepaaGreatDoor

namespace Go.Proofs.YtbjlkdenkmbepaaGreatDoor
open Go.RowKit
set_option linter.unusedVariables false

theorem DrE_rd {w : World} {B : Nat} {e : Es} {u : Value} (h : OwnM w B u e.ms) (hk : EWk e) : RdM w u e.ms := ⟨RdL.of_own h, hk.2.2.2⟩

end Go.Proofs.YtbjlkdenkmbepaaGreatDoor
