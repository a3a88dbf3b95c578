/- What is proved here: the contracts of l20Both and DrawRecordText. No condition but that the code is a slice of bytes. -/
import Derived.Test.YtdngdlcibaiekaaGreatDoorDrawC
import Derived.Test.YtdngdlcibaiekaaGreatDoorHist0
namespace Go.Proofs.YtdngdlcibaiekaaGreatDoor
open Go.RowKit
set_option linter.unusedVariables false

def BothPost (g n : Nat) (zs : List Int) (p : Nat) (w : World) (e : Ending) (w' : World) : Prop :=
  ∃ (s : List UInt8) (x : Ch), e = .returned (.tuple #[S s, chAgg x]) ∧ s.length ≤ 130 ∧ x.p.length ≤ 260 ∧ (∃ q, q ≤ p + 90 ∧ Rdr w' g n zs q) ∧ w.grownBy w' (some g)

set_option maxRecDepth 100000 in
set_option maxHeartbeats 1000000 in
theorem l20Both_any (g n : Nat) (zs : List Int) (p : Nat) (w : World) (hr : Rdr w g n zs p) (hp : p < 700000000) :
    Calls Tryz.prog 43 #[.pointer (some ⟨g, 0, none⟩)] w (BothPost g n zs p w) := by
  have hg := hr.lt
  go_enter Tryz.func43, Tryz.ntmps43
  go_wp2_with fail
  refine (l20Text_any g n zs p _ _ (by refine Rdr.below hr ?_; repeat (first | exact Below.refl _ _ | refine Below.drew ?_ | refine Below.setCell ?_ (by first | (simp; done) | (simp; omega) | omega) _ | refine Below.alloc ?_ (by first | (simp; done) | (simp; omega) | omega) _)) (by omega)).mono ?_
  rintro e w1 ⟨s, rfl, hs, ⟨q1, hq1, hr1⟩, hb⟩
  have xc : ∀ o, w1.cell? ⟨w.heap.size, o, none⟩ = #[.int .i64 0, .int .i64 0, S []][o]? := gup_c hb (by simp <;> omega) (by omega) (fun o => by simp [go_sem]); have xf : ∀ o, w1.frozen? ⟨w.heap.size, o, none⟩ = false := gup_f hb (by simp <;> omega) (by omega) (fun o => by simp [go_sem]); have xz : w.heap.size < w1.heap.size := (by have := hb.size; (try simp at this); omega); have xy := xz
  have hW : w.grownBy w1 (some g) := by (repeat (first | exact World.grownBy.refl _ _ | assumption | refine gb_drew ?_ | refine gb_drewN ?_ _ | refine gb_alloc ?_ _ | refine gb_here ?_ rfl _ | refine gb_set ?_ _ _ (by first | exact Nat.le_refl _ | (simp; done) | (simp; omega) | omega) | refine gb_trans ?_ (by assumption) | refine gb_below ?_ (by assumption)))
  clear hb hr
  go_wp2_with fail
  refine (l20Change_any g n zs q1 _ s _ hr1 (by omega) hs).mono ?_
  rintro e w2 ⟨a, c, t, rfl, ht, ⟨q2, hq2, hr2⟩, hb⟩
  have hG : w1.grownBy w2 (some g) := (by (repeat (first | exact World.grownBy.refl _ _ | assumption | refine gb_drew ?_ | refine gb_drewN ?_ _ | refine gb_alloc ?_ _ | refine gb_here ?_ rfl _ | refine gb_set ?_ _ _ (by first | exact Nat.le_refl _ | (simp; done) | (simp; omega) | omega) | refine gb_trans ?_ (by assumption) | refine gb_below ?_ (by assumption)))); replace xc := gup_c hG xz (by omega) xc; replace xf := gup_f hG xz (by omega) xf; replace xz := Nat.lt_of_lt_of_le xz hG.size; have sw2 := hG.size; replace hW := gb_trans hW hG; clear hG
  clear hb hr1
  go_wp2_with fail
  refine bodyPost_ret (v := .tuple #[S s, .agg #[.int .i64 a, .int .i64 c, S t]]) (by simp [results, Tryz.results43, go_sem, xc]) rfl ⟨s, ⟨a, c, t⟩, rfl, hs, ht, ⟨q2, by omega, by refine Rdr.below hr2 ?_; repeat (first | exact Below.refl _ _ | refine Below.drew ?_ | refine Below.setCell ?_ (by first | (simp; done) | (simp; omega) | omega) _ | refine Below.alloc ?_ (by first | (simp; done) | (simp; omega) | omega) _)⟩, by (repeat (first | exact World.grownBy.refl _ _ | assumption | refine gb_drew ?_ | refine gb_drewN ?_ _ | refine gb_alloc ?_ _ | refine gb_here ?_ rfl _ | refine gb_set ?_ _ _ (by first | exact Nat.le_refl _ | (simp; done) | (simp; omega) | omega) | refine gb_trans ?_ (by assumption) | refine gb_below ?_ (by assumption)))⟩

def DrtPost (w : World) (e : Ending) (w' : World) : Prop := ∃ x : Ch, e = .returned (chAgg x) ∧ x.p.length ≤ 260 ∧ Below w.heap.size w w'
set_option maxRecDepth 100000 in
set_option maxHeartbeats 1000000 in
theorem drawRecordText_any (v : Value) (n : Nat) (zs : List Int) (w : World) (h : Bytes w w.heap.size v n zs) :
    Calls Tryz.prog 13 #[v] w (DrtPost w) := by
  go_enter Tryz.func13, Tryz.ntmps13
  go_wp2_with fail
  refine (open_any v n zs _ (h.to (by (repeat (first | exact Below.refl _ _ | assumption | refine Below.drew ?_ | refine up_drewN ?_ _ | refine up_alloc ?_ _ | refine up_set ?_ _ _ (by first | exact Nat.le_refl _ | (simp; done) | (simp; omega) | omega) | refine up_trans ?_ (by assumption)))))).mono ?_
  rintro e w1 ⟨g, m, ys, rfl, hr, hb, hg⟩
  have xc : ∀ o, w1.cell? ⟨w.heap.size, o, none⟩ = #[.int .i64 0, .int .i64 0, S []][o]? := (fun o => (hb.cell (p := ⟨w.heap.size, o, none⟩) (by simp <;> omega)).trans (by simp [go_sem])); have xf : ∀ o, w1.frozen? ⟨w.heap.size, o, none⟩ = false := (fun o => (hb.frozen (p := ⟨w.heap.size, o, none⟩) (by simp <;> omega)).trans (by simp [go_sem])); have xz : w.heap.size < w1.heap.size := (by have := hb.size; (try simp at this); omega); have xy := xz
  have hW : Below w.heap.size w w1 := by (repeat (first | exact Below.refl _ _ | assumption | refine Below.drew ?_ | refine up_drewN ?_ _ | refine up_alloc ?_ _ | refine up_set ?_ _ _ (by first | exact Nat.le_refl _ | (simp; done) | (simp; omega) | omega) | refine up_trans ?_ (by assumption)))
  have hgz := hr.lt
  have hgx : w.heap.size < g := by have h1 := hg; simp at h1; omega
  clear hb h hg
  go_wp2_with fail
  refine (l20Both_any _ _ _ _ _ hr (by omega)).mono ?_
  rintro e w2 ⟨s, ⟨a, c, t⟩, rfl, hs, ht, ⟨q2, hq2, hr2⟩, hb⟩
  replace xc := gup_c hb xz (by omega) xc
  replace xf := gup_f hb xz (by omega) xf
  replace xz := Nat.lt_of_lt_of_le xz hb.size
  have hs2 := hb.size
  have hW2 : Below w.heap.size w w2 := up_grown hW hb (fun k hk => by injection hk with hk; omega)
  have HT := Lib.hid ht
  unfold chAgg
  clear hb hr hr2 hW
  simp only at ht
  go_wp2_with fail
  refine bodyPost_ret (v := .agg #[.int .i64 a, .int .i64 c, S t]) (by simp [results, Tryz.results13, go_sem, xc, xz]) rfl ⟨⟨a, c, t⟩, rfl, HT.out, by (repeat (first | exact Below.refl _ _ | assumption | refine Below.drew ?_ | refine up_drewN ?_ _ | refine up_alloc ?_ _ | refine up_set ?_ _ _ (by first | exact Nat.le_refl _ | (simp; done) | (simp; omega) | omega) | refine up_trans ?_ (by assumption)))⟩

end Go.Proofs.YtdngdlcibaiekaaGreatDoor
