/- What is proved here: contracts of the laws' functions on tables; the program's TableChange and the reference's give the same answer. No condition. -/
import Derived.Test.YtlejfmngpbcdhaaTabE
import Derived.Test.YtlejfmngpbcdhaaGK
namespace Go.Proofs.Ytlejfmngpbcdhaa
open Go.RowKit
set_option linter.unusedVariables false

set_option maxRecDepth 100000 in
set_option maxHeartbeats 1000000 in
theorem toTable_any (f m : List UInt8) (v : Value) (ps : List Pc) (w : World) (h : RdP w v ps) (hn : ps.length ≤ 1048576) :
    Calls Try.prog 21 #[tbAgg f m v] w (TbPost f m ps w) := by
  obtain ⟨A, c, rfl, _, _⟩ := h.form
  have T := Lib.hid (fun (w' : World) (hb : Below w.heap.size w w') => toPieceS_any (.slice A ps.length c) ps w' (h.up hb) hn)
  clear h
  unfold ToPPost at T
  unfold TbPost tbAgg
  go_enter Try.func21, Try.ntmps21
  go_wp2_with fail
  refine (T.out _ (by (repeat (first | exact Below.refl _ _ | assumption | refine Below.drew ?_ | refine up_drewN ?_ _ | refine up_alloc ?_ _ | refine up_set ?_ _ _ (by first | exact Nat.le_refl _ | (simp; done) | (simp; omega) | omega) | refine up_trans ?_ (by assumption))))).mono ?_
  rintro e w1 ⟨v1, rfl, ho1, hb⟩
  have xc : ∀ o, w1.cell? ⟨w.heap.size, o, none⟩ = #[S f, S m, .slice A ps.length c][o]? := (fun o => (hb.cell (p := ⟨w.heap.size, o, none⟩) (by simp <;> omega)).trans (by simp [go_sem])); have xf : ∀ o, w1.frozen? ⟨w.heap.size, o, none⟩ = false := (fun o => (hb.frozen (p := ⟨w.heap.size, o, none⟩) (by simp <;> omega)).trans (by simp [go_sem])); have xz : w.heap.size < w1.heap.size := (by have := hb.size; (try simp at this); omega); have xy := xz
  have yc : ∀ o, w1.cell? ⟨w.heap.size + 1, o, none⟩ = #[S [], S [], .slice none 0 0][o]? := (fun o => (hb.cell (p := ⟨w.heap.size + 1, o, none⟩) (by simp <;> omega)).trans (by simp [go_sem])); have yf : ∀ o, w1.frozen? ⟨w.heap.size + 1, o, none⟩ = false := (fun o => (hb.frozen (p := ⟨w.heap.size + 1, o, none⟩) (by simp <;> omega)).trans (by simp [go_sem])); have yz : w.heap.size + 1 < w1.heap.size := (by have := hb.size; (try simp at this); omega); have yy := yz
  have zc : ∀ o, w1.cell? ⟨w.heap.size + 2, o, none⟩ = #[S f, S m, .slice none 0 0][o]? := (fun o => (hb.cell (p := ⟨w.heap.size + 2, o, none⟩) (by simp <;> omega)).trans (by simp [go_sem])); have zf : ∀ o, w1.frozen? ⟨w.heap.size + 2, o, none⟩ = false := (fun o => (hb.frozen (p := ⟨w.heap.size + 2, o, none⟩) (by simp <;> omega)).trans (by simp [go_sem])); have zz : w.heap.size + 2 < w1.heap.size := (by have := hb.size; (try simp at this); omega); have zy := zz
  have hW : Below w.heap.size w w1 := by (repeat (first | exact Below.refl _ _ | assumption | refine Below.drew ?_ | refine up_drewN ?_ _ | refine up_alloc ?_ _ | refine up_set ?_ _ _ (by first | exact Nat.le_refl _ | (simp; done) | (simp; omega) | omega) | refine up_trans ?_ (by assumption)))
  have HO := Lib.hid (own_base ho1 (show w.heap.size + 3 ≤ _ by simp))
  obtain ⟨A1, c1, rfl, -, -⟩ := (RdL.of_own (f := pcC) (bs := ps) ho1).form
  clear hb ho1 T
  go_wp2_with fail
  refine bodyPost_ret (v := .agg #[S f, S m, .slice A1 ps.length c1]) (by simp [results, Try.results21, go_sem, yc]) rfl ⟨_, rfl, ?_, by (repeat (first | exact Below.refl _ _ | assumption | refine Below.drew ?_ | refine up_drewN ?_ _ | refine up_alloc ?_ _ | refine up_set ?_ _ _ (by first | exact Nat.le_refl _ | (simp; done) | (simp; omega) | omega) | refine up_trans ?_ (by assumption)))⟩
  exact own_base (own_set (own_set (own_set (own_set HO.out _ _ (by simp)) _ _ (by simp)) _ _ (by simp)) _ _ (by simp)) (by simp <;> omega)

set_option maxRecDepth 100000 in
set_option maxHeartbeats 1000000 in
theorem eqTable_same (f m : List UInt8) (u v : Value) (ps : List Pc) (w : World) (hu : RdL w 3 pcC u ps) (hv : RdL w 3 pcC v ps) :
    Calls Try.prog 24 #[tbAgg f m u, tbAgg f m v] w fun e w' => e = .returned (.bool true) ∧ Below w.heap.size w w' := by
  obtain ⟨A, c, rfl, hm, _⟩ := hu.form
  obtain ⟨B, d, rfl, _, _⟩ := hv.form
  have T := Lib.hid (fun (w' : World) (hb : Below w.heap.size w w') => eqPieceS_same (.slice A ps.length c) (.slice B ps.length d) ps w' (hu.up hb) (hv.up hb))
  clear hu hv
  unfold tbAgg
  go_enter Try.func24, Try.ntmps24
  go_wp2_with fail
  refine (T.out _ (by (repeat (first | exact Below.refl _ _ | assumption | refine Below.drew ?_ | refine up_drewN ?_ _ | refine up_alloc ?_ _ | refine up_set ?_ _ _ (by first | exact Nat.le_refl _ | (simp; done) | (simp; omega) | omega) | refine up_trans ?_ (by assumption))))).mono ?_
  rintro e w1 ⟨rfl, hb⟩
  have xc : ∀ o, w1.cell? ⟨w.heap.size, o, none⟩ = #[S f, S m, .slice A ps.length c][o]? := (fun o => (hb.cell (p := ⟨w.heap.size, o, none⟩) (by simp <;> omega)).trans (by simp [go_sem])); have xf : ∀ o, w1.frozen? ⟨w.heap.size, o, none⟩ = false := (fun o => (hb.frozen (p := ⟨w.heap.size, o, none⟩) (by simp <;> omega)).trans (by simp [go_sem])); have xz : w.heap.size < w1.heap.size := (by have := hb.size; (try simp at this); omega); have xy := xz
  have yc : ∀ o, w1.cell? ⟨w.heap.size + 1, o, none⟩ = #[S f, S m, .slice B ps.length d][o]? := (fun o => (hb.cell (p := ⟨w.heap.size + 1, o, none⟩) (by simp <;> omega)).trans (by simp [go_sem])); have yf : ∀ o, w1.frozen? ⟨w.heap.size + 1, o, none⟩ = false := (fun o => (hb.frozen (p := ⟨w.heap.size + 1, o, none⟩) (by simp <;> omega)).trans (by simp [go_sem])); have yz : w.heap.size + 1 < w1.heap.size := (by have := hb.size; (try simp at this); omega); have yy := yz
  have hW : Below w.heap.size w w1 := by (repeat (first | exact Below.refl _ _ | assumption | refine Below.drew ?_ | refine up_drewN ?_ _ | refine up_alloc ?_ _ | refine up_set ?_ _ _ (by first | exact Nat.le_refl _ | (simp; done) | (simp; omega) | omega) | refine up_trans ?_ (by assumption)))
  clear hb xy yy T
  go_wp2_with fail
  go_ret
  exact ⟨rfl, by (repeat (first | exact Below.refl _ _ | assumption | refine Below.drew ?_ | refine up_drewN ?_ _ | refine up_alloc ?_ _ | refine up_set ?_ _ _ (by first | exact Nat.le_refl _ | (simp; done) | (simp; omega) | omega) | refine up_trans ?_ (by assumption)))⟩

set_option maxRecDepth 100000 in
theorem markTable_any (base : Nat) (f m : List UInt8) (v : Value) (n : Nat) (xs : List Value) (w : World) (hn : n ≤ 1048576) (ho : Own w base 79 3 v n xs) :
    Calls Try.prog 25 #[tbAgg f m v, .int .i64 1] w fun e w' => e = .returned (.int .i64 ((1 + 3 * n : Nat) : Int)) ∧ Own w' base 79 3 v n ((mkP n).flatMap pcC) ∧ w.grownBy w' v.ownBlock := by
  have form : ∃ A c, v = .slice A n c := by
    rcases ho.2 with ⟨rfl, rfl⟩ | ⟨g, cap, cur, rfl, _⟩
    · exact ⟨_, _, rfl⟩
    · exact ⟨_, _, rfl⟩
  obtain ⟨A, c, rfl⟩ := form
  have T := Lib.hid (fun (w' : World) (hb : Below w.heap.size w w') => markPieceS_any base (.slice A n c) n xs w' hn (own_up ho hb))
  clear ho
  unfold tbAgg
  go_enter Try.func25, Try.ntmps25
  go_wp2_with fail
  refine (T.out _ (by (repeat (first | exact Below.refl _ _ | assumption | refine Below.drew ?_ | refine up_drewN ?_ _ | refine up_alloc ?_ _ | refine up_set ?_ _ _ (by first | exact Nat.le_refl _ | (simp; done) | (simp; omega) | omega) | refine up_trans ?_ (by assumption))))).mono ?_
  rintro e w1 ⟨rfl, ho1, hgr⟩
  have HO := Lib.hid ho1
  have HG : Hid (w.grownBy w1 (Value.slice A n c).ownBlock) := Lib.hid (gb_trans (gb_below (World.grownBy.refl _ _) (by (repeat (first | exact Below.refl _ _ | assumption | refine Below.drew ?_ | refine up_drewN ?_ _ | refine up_alloc ?_ _ | refine up_set ?_ _ _ (by first | exact Nat.le_refl _ | (simp; done) | (simp; omega) | omega) | refine up_trans ?_ (by assumption))))) hgr)
  clear hgr ho1 T
  go_wp2_with fail
  go_ret
  exact ⟨rfl, HO.out, HG.out⟩

set_option maxRecDepth 100000 in
theorem heldTable_any (f m : List UInt8) (v : Value) (n : Nat) (w : World) (hn : n ≤ 1048576) (hu : RdP w v (mkP n)) :
    Calls Try.prog 26 #[tbAgg f m v, .int .i64 1] w fun e w' => e = .returned (.int .i64 ((1 + 3 * n : Nat) : Int)) ∧ Below w.heap.size w w' := by
  obtain ⟨A, c, rfl, _, _⟩ := hu.form
  have T := Lib.hid (fun (w' : World) (hb : Below w.heap.size w w') => heldPieceS_any (.slice A (mkP n).length c) n w' hn (hu.up hb))
  rw [mkP_len] at *
  have p1 : ¬ ((1 + 3 * n : Nat) : Int) < 0 := by omega
  clear hu
  unfold tbAgg
  go_enter Try.func26, Try.ntmps26
  go_wp2_with fail
  refine (T.out _ (by (repeat (first | exact Below.refl _ _ | assumption | refine Below.drew ?_ | refine up_drewN ?_ _ | refine up_alloc ?_ _ | refine up_set ?_ _ _ (by first | exact Nat.le_refl _ | (simp; done) | (simp; omega) | omega) | refine up_trans ?_ (by assumption))))).mono ?_
  rintro e w1 ⟨rfl, hb⟩
  have hW : Below w.heap.size w w1 := by (repeat (first | exact Below.refl _ _ | assumption | refine Below.drew ?_ | refine up_drewN ?_ _ | refine up_alloc ?_ _ | refine up_set ?_ _ _ (by first | exact Nat.le_refl _ | (simp; done) | (simp; omega) | omega) | refine up_trans ?_ (by assumption)))
  clear hb T
  go_wp2_with fail
  go_ret
  exact ⟨rfl, hW⟩

/-- both functions give the same answer, from every slice that holds the pieces. -/
theorem tc_both (f m : List UInt8) (ps : List Pc) (x : Ch) (hs : SmallT f m ps) (hp : x.p.length ≤ 1048576) :
    ∃ (f2 m2 : List UInt8) (p2 : List Pc) (ok : Bool), p2.length ≤ 1048576 ∧ (∀ v w, RdP w v ps → Calls Try.prog 23 #[tbAgg f m v, chAgg x] w (TcPost f2 m2 p2 ok w)) ∧ (∀ v w, RdP w v ps → Calls Try.prog 20 #[tbAgg f m v, chAgg x] w (TcPost f2 m2 p2 ok w)) := by
  obtain ⟨hf, hm, hn⟩ := hs
  rcases hv : tbB f m ps with _ | _
  · exact ⟨[], [], [], false, by decide, fun v w h => implTableChange_no f m v ps x w h hf hm hv, fun v w h => specTableChange_no f m v ps x w h hn hf hm hv⟩
  · by_cases hok : okF (tbT f m ps) x = true ∧ m.length + x.p.length ≤ 400
    · obtain ⟨hok, h4⟩ := hok
      obtain ⟨-, -, -, -, hall, hsum⟩ := tbB_out hv
      refine ⟨_, _, _, _, ?_, fun v w h => implTableChange_yes f m v ps x w h hv hok h4, fun v w h => specTableChange_yes f m v ps x w h hv hok h4⟩
      have := len_sum (fun p hp' => (pcOk_in (hall p hp')).2.1)
      have a1 := cutA_len x.a ps
      have a2 := cutB_len (x.a + x.c) ps
      have a3 := putP_len m x.p
      unfold tcP
      simp only [List.length_append]
      omega
    · have hbad : okF (tbT f m ps) x = true → 400 < m.length + x.p.length := fun h => by
        rcases Nat.lt_or_ge 400 (m.length + x.p.length) with h4 | h4
        · exact h4
        · exact absurd ⟨h, h4⟩ hok
      exact ⟨f, m, ps, false, hn, fun v w h => implTableChange_bad f m v ps x w h hv hp hbad, fun v w h => specTableChange_bad f m v ps x w h hv hp hbad⟩

end Go.Proofs.Ytlejfmngpbcdhaa
