/- What is proved here: contracts of DrawShowRow and DrawScrollView. No condition but that the code is a slice of bytes. -/
import Derived.Test.YtiimlnefighlgaaDraw2
import Derived.Deep.RegionHeld3
namespace Go.Proofs.Ytiimlnefighlgaa
open Go.RowKit

def DrawView3Post (w : World) (e : Ending) (w' : World) : Prop :=
  ∃ t k rows d : Int, e = .returned (.tuple #[.agg #[.int .i64 t, .int .i64 k], .int .i64 rows, .int .i64 d]) ∧ Below w.heap.size w w'

set_option maxHeartbeats 1000000 in
theorem drawShowRow_any (v : Value) (n : Nat) (zs : List Int) (w : World) (h : Bytes w w.heap.size v n zs) :
    Calls Try.prog 41 #[v] w (DrawView3Post w) := by
  have hW := Below.refl w.heap.size w
  go_enter Try.func41, Try.ntmps41
  go_wp2_with fail
  refine (open_any v n zs _ (h.to (by (repeat (first | exact Below.refl _ _ | assumption | refine Below.drew ?_ | refine up_drewN ?_ _ | refine up_alloc ?_ _ | refine up_set ?_ _ _ (by first | exact Nat.le_refl _ | (simp; done) | (simp; omega) | omega) | refine up_trans ?_ (by assumption)))))).mono ?_
  rintro e w1 ⟨g, m, ys, rfl, hr, hb, hg⟩
  have hB : Below w.heap.size w w1 := (by (repeat (first | exact Below.refl _ _ | assumption | refine Below.drew ?_ | refine up_drewN ?_ _ | refine up_alloc ?_ _ | refine up_set ?_ _ _ (by first | exact Nat.le_refl _ | (simp; done) | (simp; omega) | omega) | refine up_trans ?_ (by assumption)))); have sw1 := hB.size; replace hW := up_trans hW hB; clear hB
  have uc : ∀ o, w1.cell? ⟨w.heap.size, o, none⟩ = #[.int .i64 0, .int .i64 0][o]? := (fun o => (hb.cell (p := ⟨w.heap.size, o, none⟩) (by simp <;> omega)).trans (by simp [go_sem])); have uf : ∀ o, w1.frozen? ⟨w.heap.size, o, none⟩ = false := (fun o => (hb.frozen (p := ⟨w.heap.size, o, none⟩) (by simp <;> omega)).trans (by simp [go_sem])); have uz : w.heap.size < w1.heap.size := (by have := hb.size; (try simp at this); omega); have uy := uz
  simp at hg
  clear hb h
  have hU : w.grownBy w1 (some g) := gb_below (World.grownBy.refl _ _) hW
  clear hW
  have hgz := hr.lt
  go_wp2_with fail
  refine (l20View_any _ _ _ _ _ _ hr (by omega)).mono ?_
  rintro e w2 ⟨t, k, rows, rfl, ⟨q, hq, hr2⟩, hb⟩
  have hW := hU
  have hG : w1.grownBy w2 (some g) := (by (repeat (first | exact World.grownBy.refl _ _ | assumption | refine gb_drew ?_ | refine gb_drewN ?_ _ | refine gb_alloc ?_ _ | refine gb_here ?_ rfl _ | refine gb_set ?_ _ _ (by first | exact Nat.le_refl _ | (simp; done) | (simp; omega) | omega) | refine gb_trans ?_ (by assumption) | refine gb_below ?_ (by assumption)))); replace uc := gup_c hG uz (by omega) uc; replace uf := gup_f hG uz (by omega) uf; replace uz := Nat.lt_of_lt_of_le uz hG.size; have sw2 := hG.size; replace hW := gb_trans hW hG; clear hG
  clear hb hr hU
  go_wp2_with fail
  have hne1 : ¬ w2.heap.size = w.heap.size := by omega
  have hne2 : ¬ w.heap.size = w2.heap.size := by omega
  rcases (show rows < 1 ∨ rows = 1 ∨ (1 < rows ∧ rows < 200) ∨ rows = 200 ∨ 200 < rows by omega) with hc | rfl | ⟨hc, hc'⟩ | rfl | hc
  all_goals
    go_region_held3 (fun w' => w'.cell? ⟨w2.heap.size, 0, none⟩ = some (.int .i64 t) ∧ w'.cell? ⟨w2.heap.size, 1, none⟩ = some (.int .i64 k)) (first | go_keep | (constructor <;> (simp [go_sem, *]; done))) ((go_at_call 72; refine (pick_any _ _ _ _ _ _ (hr2.up (by (repeat (first | exact Below.refl _ _ | assumption | refine Below.drew ?_ | refine up_drewN ?_ _ | refine up_alloc ?_ _ | refine up_set ?_ _ _ (by first | exact Nat.le_refl _ | (simp; done) | (simp; omega) | omega) | refine up_trans ?_ (by assumption))))) (by omega)).mono ?_; rintro e w3 ⟨x, rfl, h1, h2, hr4, hb⟩; go_must (have hG : w2.grownBy w3 (some g) := (by (repeat (first | exact World.grownBy.refl _ _ | assumption | refine gb_drew ?_ | refine gb_drewN ?_ _ | refine gb_alloc ?_ _ | refine gb_here ?_ rfl _ | refine gb_set ?_ _ _ (by first | exact Nat.le_refl _ | (simp; done) | (simp; omega) | omega) | refine gb_trans ?_ (by assumption) | refine gb_below ?_ (by assumption)))); replace uc := gup_c hG uz (by omega) uc; replace uf := gup_f hG uz (by omega) uf; replace uz := Nat.lt_of_lt_of_le uz hG.size; have sw3 := hG.size; replace hW := gb_trans hW hG; clear hG; have yc : ∀ o, w3.cell? ⟨w2.heap.size, o, none⟩ = #[.int .i64 t, .int .i64 k][o]? := gup_c hb (by simp <;> omega) (by omega) (fun o => by simp [go_sem]); have yf : ∀ o, w3.frozen? ⟨w2.heap.size, o, none⟩ = false := gup_f hb (by simp <;> omega) (by omega) (fun o => by simp [go_sem]); have yz : w2.heap.size < w3.heap.size := (by have := hb.size; (try simp at this); omega); have yy := yz; clear hb h1 h2)))
    all_goals
      go_wp2_with fail
      refine bodyPost_ret (v := .tuple #[.agg #[.int .i64 t, .int .i64 k], .int .i64 _, .int .i64 _]) (by simp [results, Try.results41, go_sem, uc]; exact ⟨rfl, rfl⟩) rfl ⟨_, _, _, _, rfl, ?_⟩
      have hF := below_of_gb hW (by omega)
      (repeat (first | exact Below.refl _ _ | assumption | refine Below.drew ?_ | refine up_drewN ?_ _ | refine up_alloc ?_ _ | refine up_set ?_ _ _ (by first | exact Nat.le_refl _ | (simp; done) | (simp; omega) | omega) | refine up_trans ?_ (by assumption)))

end Go.Proofs.Ytiimlnefighlgaa
