/- What is proved here: contracts of EditorOf in the program and in the reference, of markEditor and of heldEditor. No condition. -/
import Derived.Test.YtbjlkdenkmbepaaGreatDoorEd1
import Derived.Test.YtbjlkdenkmbepaaGreatDoorMarkM
import Derived.Test.YtbjlkdenkmbepaaGreatDoorHistO
namespace Go.Proofs.YtbjlkdenkmbepaaGreatDoor
open Go.RowKit
set_option linter.unusedVariables false

/-- the text and the states of a new editor. -/
def eoT (s : List UInt8) : List UInt8 := if tv s = true then s else []
def eoM (s : List UInt8) : List Mo := if tv s = true then [m0] else []
theorem eoM_len (s : List UInt8) : (eoM s).length ≤ 1048576 := by unfold eoM; split <;> decide

set_option maxRecDepth 100000 in
set_option maxHeartbeats 1000000 in
theorem implEditorOf_any (s : List UInt8) (w : World) (hs : s.length ≤ maxLen) :
    Calls Tryz.prog 30 #[S s] w (ToEPost (eoT s) 0 [] (eoM s) 0 w) := by
  have T := Lib.hid (fun w => implTextValid_any s w hs)
  have C := Lib.hid (fun w => implHistoryOf_any w)
  unfold CopyPost at C
  unfold ToEPost edAgg
  rcases ht : tv s with _ | _
  · have e1 := Lib.hid (show eoT s = [] by unfold eoT; rw [ht]; rfl)
    have e2 := Lib.hid (show eoM s = [] by unfold eoM; rw [ht]; rfl)
    rw [ht] at T
    clear ht
    rw [e1.out, e2.out]
    go_enter Tryz.func30, Tryz.ntmps30
    go_wp2_with fail
    refine (T.out _).mono ?_
    rintro e w1 ⟨rfl, rfl⟩
    go_wp2_with fail
    refine bodyPost_ret (v := .agg #[S [], .int .i64 0, S [], .slice none 0 0, .int .i64 0]) (by simp [results, Tryz.results30, go_sem]) rfl ⟨_, rfl, World.ownsRow_nil _ _ _ _, by (repeat (first | exact Below.refl _ _ | assumption | refine Below.drew ?_ | refine up_drewN ?_ _ | refine up_alloc ?_ _ | refine up_set ?_ _ _ (by first | exact Nat.le_refl _ | (simp; done) | (simp; omega) | omega) | refine up_trans ?_ (by assumption)))⟩
  · have e1 := Lib.hid (show eoT s = s by unfold eoT; rw [ht]; rfl)
    have e2 := Lib.hid (show eoM s = [m0] by unfold eoM; rw [ht]; rfl)
    rw [ht] at T
    clear ht
    rw [e1.out, e2.out]
    go_enter Tryz.func30, Tryz.ntmps30
    go_wp2_with fail
    refine (T.out _).mono ?_
    rintro e w1 ⟨rfl, rfl⟩
    go_wp2_with fail
    refine (C.out _).mono ?_
    rintro e w2 ⟨v2, rfl, ho, hb⟩
    have xc : ∀ o, w2.cell? ⟨w.heap.size, o, none⟩ = #[S [], .int .i64 0, S [], .slice none 0 0, .int .i64 0][o]? := (fun o => (hb.cell (p := ⟨w.heap.size, o, none⟩) (by simp <;> omega)).trans (by simp [go_sem])); have xf : ∀ o, w2.frozen? ⟨w.heap.size, o, none⟩ = false := (fun o => (hb.frozen (p := ⟨w.heap.size, o, none⟩) (by simp <;> omega)).trans (by simp [go_sem])); have xz : w.heap.size < w2.heap.size := (by have := hb.size; (try simp at this); omega); have xy := xz
    have hW : Below w.heap.size w w2 := by (repeat (first | exact Below.refl _ _ | assumption | refine Below.drew ?_ | refine up_drewN ?_ _ | refine up_alloc ?_ _ | refine up_set ?_ _ _ (by first | exact Nat.le_refl _ | (simp; done) | (simp; omega) | omega) | refine up_trans ?_ (by assumption)))
    have HO := Lib.hid (own_base ho (show w.heap.size + 1 ≤ _ by simp))
    obtain ⟨A2, c2, rfl, -, -⟩ := (RdL.of_own (f := moC) (bs := [m0]) ho).form
    clear hb ho
    simp only [List.length_cons, List.length_nil, Nat.zero_add] at HO ⊢
    go_wp2_with fail
    refine bodyPost_ret (v := .agg #[S s, .int .i64 0, S [], .slice A2 1 c2, .int .i64 0]) (by simp [results, Tryz.results30, go_sem, xc]) rfl ⟨_, rfl, ?_, by (repeat refine up_set ?_ _ _ (by first | exact Nat.le_refl _ | (simp; done) | (simp; omega) | omega)); exact hW⟩
    exact own_base (own_set (own_set (own_set (own_set (own_set HO.out _ _ (by simp)) _ _ (by simp)) _ _ (by simp)) _ _ (by simp)) _ _ (by simp)) (by omega)

set_option maxRecDepth 100000 in
set_option maxHeartbeats 1000000 in
theorem specEditorOf_any (s : List UInt8) (w : World) (hs : s.length ≤ maxLen) :
    Calls Tryz.prog 31 #[S s] w (ToEPost (eoT s) 0 [] (eoM s) 0 w) := by
  have T := Lib.hid (fun w => specTextValid_any s w hs)
  have C := Lib.hid (fun w => specHistoryOf_any w)
  unfold CopyPost at C
  unfold ToEPost edAgg
  rcases ht : tv s with _ | _
  · have e1 := Lib.hid (show eoT s = [] by unfold eoT; rw [ht]; rfl)
    have e2 := Lib.hid (show eoM s = [] by unfold eoM; rw [ht]; rfl)
    rw [ht] at T
    clear ht
    rw [e1.out, e2.out]
    go_enter Tryz.func31, Tryz.ntmps31
    go_wp2_with fail
    refine (T.out _).mono ?_
    rintro e w1 ⟨rfl, rfl⟩
    go_wp2_with fail
    refine bodyPost_ret (v := .agg #[S [], .int .i64 0, S [], .slice none 0 0, .int .i64 0]) (by simp [results, Tryz.results31, go_sem]) rfl ⟨_, rfl, World.ownsRow_nil _ _ _ _, by (repeat (first | exact Below.refl _ _ | assumption | refine Below.drew ?_ | refine up_drewN ?_ _ | refine up_alloc ?_ _ | refine up_set ?_ _ _ (by first | exact Nat.le_refl _ | (simp; done) | (simp; omega) | omega) | refine up_trans ?_ (by assumption)))⟩
  · have e1 := Lib.hid (show eoT s = s by unfold eoT; rw [ht]; rfl)
    have e2 := Lib.hid (show eoM s = [m0] by unfold eoM; rw [ht]; rfl)
    rw [ht] at T
    clear ht
    rw [e1.out, e2.out]
    go_enter Tryz.func31, Tryz.ntmps31
    go_wp2_with fail
    refine (T.out _).mono ?_
    rintro e w1 ⟨rfl, rfl⟩
    go_wp2_with fail
    refine (C.out _).mono ?_
    rintro e w2 ⟨v2, rfl, ho, hb⟩
    have xc : ∀ o, w2.cell? ⟨w.heap.size, o, none⟩ = #[S [], .int .i64 0, S [], .slice none 0 0, .int .i64 0][o]? := (fun o => (hb.cell (p := ⟨w.heap.size, o, none⟩) (by simp <;> omega)).trans (by simp [go_sem])); have xf : ∀ o, w2.frozen? ⟨w.heap.size, o, none⟩ = false := (fun o => (hb.frozen (p := ⟨w.heap.size, o, none⟩) (by simp <;> omega)).trans (by simp [go_sem])); have xz : w.heap.size < w2.heap.size := (by have := hb.size; (try simp at this); omega); have xy := xz
    have hW : Below w.heap.size w w2 := by (repeat (first | exact Below.refl _ _ | assumption | refine Below.drew ?_ | refine up_drewN ?_ _ | refine up_alloc ?_ _ | refine up_set ?_ _ _ (by first | exact Nat.le_refl _ | (simp; done) | (simp; omega) | omega) | refine up_trans ?_ (by assumption)))
    have HO := Lib.hid (own_base ho (show w.heap.size + 1 ≤ _ by simp))
    obtain ⟨A2, c2, rfl, -, -⟩ := (RdL.of_own (f := moC) (bs := [m0]) ho).form
    clear hb ho
    simp only [List.length_cons, List.length_nil, Nat.zero_add] at HO ⊢
    go_wp2_with fail
    refine bodyPost_ret (v := .agg #[S s, .int .i64 0, S [], .slice A2 1 c2, .int .i64 0]) (by simp [results, Tryz.results31, go_sem, xc]) rfl ⟨_, rfl, ?_, by (repeat refine up_set ?_ _ _ (by first | exact Nat.le_refl _ | (simp; done) | (simp; omega) | omega)); exact hW⟩
    exact own_base (own_set (own_set (own_set (own_set (own_set HO.out _ _ (by simp)) _ _ (by simp)) _ _ (by simp)) _ _ (by simp)) _ _ (by simp)) (by omega)

set_option maxRecDepth 100000 in
theorem markEditor_any (base : Nat) (v : Value) (n : Nat) (a : Int) (s : List UInt8) (x : Int) (cl : List UInt8) (xs : List Value) (q : Nat) (w : World) (hq : 1 ≤ q) (hq2 : q ≤ 100) (hn : n ≤ 1048576) (hbw : base ≤ w.heap.size) (ho : Own w base 96 7 v n xs) :
    Calls Tryz.prog 23 #[edAgg s x cl v a, .int .i64 q] w fun e w' => e = .returned (.int .i64 ((q + 7 * n : Nat) : Int)) ∧ Own w' base 96 7 v n ((mkM q n).flatMap moC) ∧ w.grownBy w' v.ownBlock := by
  have form : ∃ A c, v = .slice A n c := by
    rcases ho.2 with ⟨rfl, rfl⟩ | ⟨g, cap, cur, rfl, _⟩
    · exact ⟨_, _, rfl⟩
    · exact ⟨_, _, rfl⟩
  obtain ⟨A, c, rfl⟩ := form
  have T := Lib.hid (fun (w' : World) (hb : Below w.heap.size w w') => markHistory_any base (.slice A n c) n a xs q w' hq hq2 hn (Nat.le_trans hbw hb.size) (own_up ho hb))
  clear ho
  unfold edAgg
  go_enter Tryz.func23, Tryz.ntmps23
  go_wp2_with fail
  refine (T.out _ (by (repeat (first | exact Below.refl _ _ | assumption | refine Below.drew ?_ | refine up_drewN ?_ _ | refine up_alloc ?_ _ | refine up_set ?_ _ _ (by first | exact Nat.le_refl _ | (simp; done) | (simp; omega) | omega) | refine up_trans ?_ (by assumption))))).mono ?_
  rintro e w1 ⟨rfl, ho1, hgr⟩
  have HO := Lib.hid ho1
  have HG : Hid (w.grownBy w1 (Value.slice A n c).ownBlock) := Lib.hid (gb_trans (gb_below (World.grownBy.refl _ _) (by (repeat (first | exact Below.refl _ _ | assumption | refine Below.drew ?_ | refine up_drewN ?_ _ | refine up_alloc ?_ _ | refine up_set ?_ _ _ (by first | exact Nat.le_refl _ | (simp; done) | (simp; omega) | omega) | refine up_trans ?_ (by assumption))))) hgr)
  clear hgr ho1 T
  go_wp2_with fail
  go_ret
  exact ⟨rfl, HO.out, HG.out⟩

set_option maxRecDepth 100000 in
theorem heldEditor_any (v : Value) (n : Nat) (a : Int) (s : List UInt8) (x : Int) (cl : List UInt8) (q : Nat) (w : World) (hq : 1 ≤ q) (hq2 : q ≤ 100) (hn : n ≤ 1048576) (hu : RdL w 7 moC v (mkM q n)) :
    Calls Tryz.prog 24 #[edAgg s x cl v a, .int .i64 q] w fun e w' => e = .returned (.int .i64 ((q + 7 * n : Nat) : Int)) ∧ Below w.heap.size w w' := by
  obtain ⟨A, c, rfl, _, _⟩ := hu.form
  rw [mkM_len] at *
  have T := Lib.hid (fun (w' : World) (hb : Below w.heap.size w w') => heldHistory_any (.slice A n c) n a q w' hq hq2 hn (hu.up hb))
  clear hu
  unfold edAgg
  go_enter Tryz.func24, Tryz.ntmps24
  go_wp2_with fail
  refine (T.out _ (by (repeat (first | exact Below.refl _ _ | assumption | refine Below.drew ?_ | refine up_drewN ?_ _ | refine up_alloc ?_ _ | refine up_set ?_ _ _ (by first | exact Nat.le_refl _ | (simp; done) | (simp; omega) | omega) | refine up_trans ?_ (by assumption))))).mono ?_
  rintro e w1 ⟨rfl, hb⟩
  have hW : Below w.heap.size w w1 := by (repeat (first | exact Below.refl _ _ | assumption | refine Below.drew ?_ | refine up_drewN ?_ _ | refine up_alloc ?_ _ | refine up_set ?_ _ _ (by first | exact Nat.le_refl _ | (simp; done) | (simp; omega) | omega) | refine up_trans ?_ (by assumption)))
  have p1 : ¬ ((q + 7 * n : Nat) : Int) < 0 := by omega
  clear hb T
  go_wp2_with fail
  go_ret
  exact ⟨rfl, hW⟩

end Go.Proofs.YtbjlkdenkmbepaaGreatDoor
