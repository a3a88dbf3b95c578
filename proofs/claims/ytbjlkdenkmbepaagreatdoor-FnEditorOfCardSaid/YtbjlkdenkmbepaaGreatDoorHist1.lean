/- What is proved here: contracts of the reverse of a change, in the program and in the reference. No condition. -/
import Derived.Test.YtbjlkdenkmbepaaGreatDoorHist0
import Derived.Test.YtbjlkdenkmbepaaGreatDoorEverL
import Derived.BigRegion
namespace Go.Proofs.YtbjlkdenkmbepaaGreatDoor
open Go.RowKit

/-- the reverse, if there is one. -/
def RvPost (s : List UInt8) (x : Ch) (w : World) (e : Ending) (w' : World) : Prop := e = .returned (.tuple #[chAgg (if okF s x = true then rvF s x else c0), .bool (okF s x)]) ∧ Below w.heap.size w w'
def AplPost (s : List UInt8) (x : Ch) (w : World) (e : Ending) (w' : World) : Prop := ∃ t, e = .returned (.tuple #[S t, .bool (okF s x)]) ∧ (okF s x = true → t = apF s x) ∧ Below w.heap.size w w'

theorem applyF_any (s : List UInt8) (x : Ch) (w : World) (hs : tv s = true) (hp : x.p.length ≤ 1048576) :
    Calls Tryz.prog 135 #[chAgg x, S s] w (AplPost s x w) := apply_any s x.a x.c x.p w hs hp
theorem implFits_any (s : List UInt8) (x : Ch) (w : World) (hs : tv s = true) (hp : x.p.length ≤ 1048576) :
    Calls Tryz.prog 163 #[S s, chAgg x] w fun e w' => e = .returned (.bool (okF s x)) ∧ Below w.heap.size w w' := by
  have HA := Lib.hid (fun w => applyF_any s x w hs hp)
  unfold AplPost at HA
  generalize okF s x = ok at *
  unfold chAgg at HA ⊢
  go_enter Tryz.func163, Tryz.ntmps163
  go_wp2_with fail
  refine (HA.out _).mono ?_
  rintro e w1 ⟨t, rfl, -, hb⟩
  have hW : Below w.heap.size w w1 := by (repeat (first | exact Below.refl _ _ | assumption | refine Below.drew ?_ | refine up_drewN ?_ _ | refine up_alloc ?_ _ | refine up_set ?_ _ _ (by first | exact Nat.le_refl _ | (simp; done) | (simp; omega) | omega) | refine up_trans ?_ (by assumption)))
  clear hb
  go_wp2_with fail
  go_ret
  exact ⟨rfl, hW⟩
theorem specFits_any (s : List UInt8) (x : Ch) (w : World) (hs : tv s = true) (hp : x.p.length ≤ 1048576) :
    Calls Tryz.prog 141 #[S s, chAgg x] w fun e w' => e = .returned (.bool (okF s x)) ∧ Below w.heap.size w w' := changeFits_any s x.a x.c x.p w hs hp

set_option maxRecDepth 100000 in
set_option maxHeartbeats 2000000 in
theorem implReverse_any (s : List UInt8) (x : Ch) (w : World) (hs : tv s = true) (hp : x.p.length ≤ 1048576) :
    Calls Tryz.prog 136 #[S s, chAgg x] w (RvPost s x w) := by
  have HA := Lib.hid (fun w => implFits_any s x w hs hp)
  have hl := tv_len hs
  unfold RvPost
  rcases hk : okF s x with _ | _
  · rw [hk] at HA
    simp only [Bool.false_eq_true, if_false]
    unfold c0
    unfold chAgg at HA ⊢
    clear hk
    go_enter Tryz.func136, Tryz.ntmps136
    go_wp2_with fail
    refine (HA.out _).mono ?_
    rintro e w1 ⟨rfl, hb⟩
    have yc : ∀ o, w1.cell? ⟨w.heap.size + 1, o, none⟩ = #[.int .i64 0, .int .i64 0, S []][o]? := (fun o => (hb.cell (p := ⟨w.heap.size + 1, o, none⟩) (by simp <;> omega)).trans (by simp [go_sem])); have yf : ∀ o, w1.frozen? ⟨w.heap.size + 1, o, none⟩ = false := (fun o => (hb.frozen (p := ⟨w.heap.size + 1, o, none⟩) (by simp <;> omega)).trans (by simp [go_sem])); have yz : w.heap.size + 1 < w1.heap.size := (by have := hb.size; (try simp at this); omega); have yy := yz
    have hW : Below w.heap.size w w1 := by (repeat (first | exact Below.refl _ _ | assumption | refine Below.drew ?_ | refine up_drewN ?_ _ | refine up_alloc ?_ _ | refine up_set ?_ _ _ (by first | exact Nat.le_refl _ | (simp; done) | (simp; omega) | omega) | refine up_trans ?_ (by assumption)))
    clear hb
    go_wp2_with fail
    refine bodyPost_ret (v := .tuple #[.agg #[.int .i64 0, .int .i64 0, S []], .bool false]) (by simp [results, Tryz.results136, go_sem, yc]) rfl ⟨rfl, by (repeat (first | exact Below.refl _ _ | assumption | refine Below.drew ?_ | refine up_drewN ?_ _ | refine up_alloc ?_ _ | refine up_set ?_ _ _ (by first | exact Nat.le_refl _ | (simp; done) | (simp; omega) | omega) | refine up_trans ?_ (by assumption)))⟩
  · rw [hk] at HA
    obtain ⟨b0, b1, b2, b3⟩ := okF_in hk
    simp only [if_true]
    have HR := Lib.hid (show rvF s x = ⟨x.a, x.p.length, (s.drop x.a.toNat).take x.c.toNat⟩ from rfl)
    clear hk
    obtain ⟨xa, xc, xp⟩ := x
    simp only at b0 b1 b2 b3 hp
    rw [HR.out]
    unfold chAgg at HA ⊢
    simp only at HA ⊢
    obtain ⟨n, rfl⟩ : ∃ n : Nat, xa = n := ⟨xa.toNat, by omega⟩
    obtain ⟨m, rfl⟩ : ∃ m : Nat, xc = m := ⟨xc.toNat, by omega⟩
    have hwr : IntKind.i64.wrap ((n : Int) + (m : Int)) = (n : Int) + (m : Int) := by rw [IntKind.wrap_i64]; omega
    have hn3 : ((n : Int) + (m : Int)).toNat = n + m := by omega
    have b4 : (0 : Int) ≤ (n : Int) + (m : Int) := by omega
    have b5 : (n : Int) ≤ (n : Int) + (m : Int) := by omega
    go_enter Tryz.func136, Tryz.ntmps136
    go_wp2_with fail
    refine (HA.out _).mono ?_
    rintro e w1 ⟨rfl, hb⟩
    have xc : ∀ o, w1.cell? ⟨w.heap.size, o, none⟩ = #[.int .i64 n, .int .i64 m, S xp][o]? := (fun o => (hb.cell (p := ⟨w.heap.size, o, none⟩) (by simp <;> omega)).trans (by simp [go_sem])); have xf : ∀ o, w1.frozen? ⟨w.heap.size, o, none⟩ = false := (fun o => (hb.frozen (p := ⟨w.heap.size, o, none⟩) (by simp <;> omega)).trans (by simp [go_sem])); have xz : w.heap.size < w1.heap.size := (by have := hb.size; (try simp at this); omega); have xy := xz
    have yc : ∀ o, w1.cell? ⟨w.heap.size + 1, o, none⟩ = #[.int .i64 0, .int .i64 0, S []][o]? := (fun o => (hb.cell (p := ⟨w.heap.size + 1, o, none⟩) (by simp <;> omega)).trans (by simp [go_sem])); have yf : ∀ o, w1.frozen? ⟨w.heap.size + 1, o, none⟩ = false := (fun o => (hb.frozen (p := ⟨w.heap.size + 1, o, none⟩) (by simp <;> omega)).trans (by simp [go_sem])); have yz : w.heap.size + 1 < w1.heap.size := (by have := hb.size; (try simp at this); omega); have yy := yz
    have hW : Below w.heap.size w w1 := by (repeat (first | exact Below.refl _ _ | assumption | refine Below.drew ?_ | refine up_drewN ?_ _ | refine up_alloc ?_ _ | refine up_set ?_ _ _ (by first | exact Nat.le_refl _ | (simp; done) | (simp; omega) | omega) | refine up_trans ?_ (by assumption)))
    clear hb HA HR
    have ne1 : ¬ w.heap.size + 1 = w.heap.size := by omega
    have ne2 : ¬ w.heap.size = w.heap.size + 1 := by omega
    go_wp2_with fail
    go_region
    all_goals
      go_wp2_with fail
      refine bodyPost_ret (v := .tuple #[.agg #[.int .i64 n, .int .i64 xp.length, S ((s.drop n).take m)], .bool true]) (by simp [results, Tryz.results136, go_sem, yc, List.drop_take]) rfl ⟨rfl, by (repeat (first | exact Below.refl _ _ | assumption | refine Below.drew ?_ | refine up_drewN ?_ _ | refine up_alloc ?_ _ | refine up_set ?_ _ _ (by first | exact Nat.le_refl _ | (simp; done) | (simp; omega) | omega) | refine up_trans ?_ (by assumption)))⟩

set_option maxRecDepth 100000 in
set_option maxHeartbeats 2000000 in
theorem specReverse_any (s : List UInt8) (x : Ch) (w : World) (hs : tv s = true) (hp : x.p.length ≤ 1048576) :
    Calls Tryz.prog 138 #[S s, chAgg x] w (RvPost s x w) := by
  have HA := Lib.hid (fun w => specFits_any s x w hs hp)
  have hl := tv_len hs
  unfold RvPost
  rcases hk : okF s x with _ | _
  · rw [hk] at HA
    simp only [Bool.false_eq_true, if_false]
    unfold c0
    unfold chAgg at HA ⊢
    clear hk
    go_enter Tryz.func138, Tryz.ntmps138
    go_wp2_with fail
    refine (HA.out _).mono ?_
    rintro e w1 ⟨rfl, hb⟩
    have yc : ∀ o, w1.cell? ⟨w.heap.size + 1, o, none⟩ = #[.int .i64 0, .int .i64 0, S []][o]? := (fun o => (hb.cell (p := ⟨w.heap.size + 1, o, none⟩) (by simp <;> omega)).trans (by simp [go_sem])); have yf : ∀ o, w1.frozen? ⟨w.heap.size + 1, o, none⟩ = false := (fun o => (hb.frozen (p := ⟨w.heap.size + 1, o, none⟩) (by simp <;> omega)).trans (by simp [go_sem])); have yz : w.heap.size + 1 < w1.heap.size := (by have := hb.size; (try simp at this); omega); have yy := yz
    have hW : Below w.heap.size w w1 := by (repeat (first | exact Below.refl _ _ | assumption | refine Below.drew ?_ | refine up_drewN ?_ _ | refine up_alloc ?_ _ | refine up_set ?_ _ _ (by first | exact Nat.le_refl _ | (simp; done) | (simp; omega) | omega) | refine up_trans ?_ (by assumption)))
    clear hb
    go_wp2_with fail
    refine bodyPost_ret (v := .tuple #[.agg #[.int .i64 0, .int .i64 0, S []], .bool false]) (by simp [results, Tryz.results138, go_sem, yc]) rfl ⟨rfl, by (repeat (first | exact Below.refl _ _ | assumption | refine Below.drew ?_ | refine up_drewN ?_ _ | refine up_alloc ?_ _ | refine up_set ?_ _ _ (by first | exact Nat.le_refl _ | (simp; done) | (simp; omega) | omega) | refine up_trans ?_ (by assumption)))⟩
  · rw [hk] at HA
    obtain ⟨b0, b1, b2, b3⟩ := okF_in hk
    simp only [if_true]
    have HR := Lib.hid (show rvF s x = ⟨x.a, x.p.length, (s.drop x.a.toNat).take x.c.toNat⟩ from rfl)
    clear hk
    obtain ⟨xa, xc, xp⟩ := x
    simp only at b0 b1 b2 b3 hp
    rw [HR.out]
    unfold chAgg at HA ⊢
    simp only at HA ⊢
    obtain ⟨n, rfl⟩ : ∃ n : Nat, xa = n := ⟨xa.toNat, by omega⟩
    obtain ⟨m, rfl⟩ : ∃ m : Nat, xc = m := ⟨xc.toNat, by omega⟩
    have hwr : IntKind.i64.wrap ((n : Int) + (m : Int)) = (n : Int) + (m : Int) := by rw [IntKind.wrap_i64]; omega
    have hn3 : ((n : Int) + (m : Int)).toNat = n + m := by omega
    have b4 : (0 : Int) ≤ (n : Int) + (m : Int) := by omega
    have b5 : (n : Int) ≤ (n : Int) + (m : Int) := by omega
    go_enter Tryz.func138, Tryz.ntmps138
    go_wp2_with fail
    refine (HA.out _).mono ?_
    rintro e w1 ⟨rfl, hb⟩
    have xc : ∀ o, w1.cell? ⟨w.heap.size, o, none⟩ = #[.int .i64 n, .int .i64 m, S xp][o]? := (fun o => (hb.cell (p := ⟨w.heap.size, o, none⟩) (by simp <;> omega)).trans (by simp [go_sem])); have xf : ∀ o, w1.frozen? ⟨w.heap.size, o, none⟩ = false := (fun o => (hb.frozen (p := ⟨w.heap.size, o, none⟩) (by simp <;> omega)).trans (by simp [go_sem])); have xz : w.heap.size < w1.heap.size := (by have := hb.size; (try simp at this); omega); have xy := xz
    have yc : ∀ o, w1.cell? ⟨w.heap.size + 1, o, none⟩ = #[.int .i64 0, .int .i64 0, S []][o]? := (fun o => (hb.cell (p := ⟨w.heap.size + 1, o, none⟩) (by simp <;> omega)).trans (by simp [go_sem])); have yf : ∀ o, w1.frozen? ⟨w.heap.size + 1, o, none⟩ = false := (fun o => (hb.frozen (p := ⟨w.heap.size + 1, o, none⟩) (by simp <;> omega)).trans (by simp [go_sem])); have yz : w.heap.size + 1 < w1.heap.size := (by have := hb.size; (try simp at this); omega); have yy := yz
    have hW : Below w.heap.size w w1 := by (repeat (first | exact Below.refl _ _ | assumption | refine Below.drew ?_ | refine up_drewN ?_ _ | refine up_alloc ?_ _ | refine up_set ?_ _ _ (by first | exact Nat.le_refl _ | (simp; done) | (simp; omega) | omega) | refine up_trans ?_ (by assumption)))
    clear hb HA HR
    have ne1 : ¬ w.heap.size + 1 = w.heap.size := by omega
    have ne2 : ¬ w.heap.size = w.heap.size + 1 := by omega
    go_wp2_with fail
    go_region
    all_goals
      go_wp2_with fail
      refine bodyPost_ret (v := .tuple #[.agg #[.int .i64 n, .int .i64 xp.length, S ((s.drop n).take m)], .bool true]) (by simp [results, Tryz.results138, go_sem, yc, List.drop_take]) rfl ⟨rfl, by (repeat (first | exact Below.refl _ _ | assumption | refine Below.drew ?_ | refine up_drewN ?_ _ | refine up_alloc ?_ _ | refine up_set ?_ _ _ (by first | exact Nat.le_refl _ | (simp; done) | (simp; omega) | omega) | refine up_trans ?_ (by assumption)))⟩

end Go.Proofs.YtbjlkdenkmbepaaGreatDoor
