/- What is proved here: contracts of the reference's TableText and TableOf, the program's TableText, and the laws' samePieces. No condition. -/
import Derived.Test.YtlejfmngpbcdhaaTabH
import Derived.Test.YtlejfmngpbcdhaaTabE
namespace Go.Proofs.Ytlejfmngpbcdhaa
open Go.RowKit
set_option linter.unusedVariables false
set_option linter.unusedSimpArgs false

set_option maxRecDepth 100000 in
set_option maxHeartbeats 1000000 in
theorem specTableText_no (f m : List UInt8) (v : Value) (ps : List Pc) (w : World) (h : RdP w v ps) (hv : tbB f m ps = false) (hf : f.length ≤ 1048576) (hm : m.length ≤ 1048576) :
    Calls Try.prog 54 #[tbAgg f m v] w fun e w' => e = .returned (S []) ∧ Below w.heap.size w w' := by
  obtain ⟨A, c, rfl, hpl, _⟩ := h.form
  unfold maxLen at hpl
  have VV := Lib.hid (fun (w' : World) (hb : Below w.heap.size w w') => specTableValid_any f m (.slice A ps.length c) ps w' (h.up hb) hf hm)
  rw [hv] at VV
  clear h hv
  unfold tbAgg at *
  by_cases h0 : 0 < ps.length
  · have h1 : (0 : Int) < (ps.length : Int) := by omega
    go_enter Try.func54, Try.ntmps54
    go_wp2_with fail
    refine wp_loop_rounds 1 ?_
    rw [rounds_succ]
    go_wp2_with fail
    refine (VV.out _ (by (repeat (first | exact Below.refl _ _ | assumption | refine Below.drew ?_ | refine up_drewN ?_ _ | refine up_alloc ?_ _ | refine up_set ?_ _ _ (by first | exact Nat.le_refl _ | (simp; done) | (simp; omega) | omega) | refine up_trans ?_ (by assumption))))).mono ?_
    rintro e w1 ⟨rfl, hb⟩
    have hW : Below w.heap.size w w1 := by (repeat (first | exact Below.refl _ _ | assumption | refine Below.drew ?_ | refine up_drewN ?_ _ | refine up_alloc ?_ _ | refine up_set ?_ _ _ (by first | exact Nat.le_refl _ | (simp; done) | (simp; omega) | omega) | refine up_trans ?_ (by assumption)))
    clear hb VV
    go_wp2_with fail
    go_ret
    exact ⟨rfl, hW⟩
  · have h1 : ¬ (0 : Int) < (ps.length : Int) := by omega
    go_enter Try.func54, Try.ntmps54
    go_wp2_with fail
    refine wp_loop_rounds 1 ?_
    rw [rounds_succ]
    go_wp2_with fail
    go_ret
    exact ⟨rfl, by (repeat (first | exact Below.refl _ _ | assumption | refine Below.drew ?_ | refine up_drewN ?_ _ | refine up_alloc ?_ _ | refine up_set ?_ _ _ (by first | exact Nat.le_refl _ | (simp; done) | (simp; omega) | omega) | refine up_trans ?_ (by assumption)))⟩
/-- the text of a table, or nothing. -/
def tbX (f m : List UInt8) (ps : List Pc) : List UInt8 := if tbB f m ps = true then tbT f m ps else []
theorem tbX_len (f m : List UInt8) (ps : List Pc) : (tbX f m ps).length ≤ 120 := by
  unfold tbX
  split
  · rename_i h
    exact tv_len (tbT_tv h)
  · exact Nat.zero_le _
theorem specTableText_any (f m : List UInt8) (v : Value) (ps : List Pc) (w : World) (h : RdP w v ps) (hf : f.length ≤ 1048576) (hm : m.length ≤ 1048576) :
    Calls Try.prog 54 #[tbAgg f m v] w fun e w' => e = .returned (S (tbX f m ps)) ∧ Below w.heap.size w w' := by
  unfold tbX
  rcases hv : tbB f m ps with _ | _
  · rw [if_neg (by simp)]
    exact specTableText_no f m v ps w h hv hf hm
  · rw [if_pos rfl]
    exact specTableText_yes f m v ps w h hv hf hm

set_option maxRecDepth 100000 in
set_option maxHeartbeats 1000000 in
theorem implTableText_yes (f m : List UInt8) (v : Value) (ps : List Pc) (w : World) (h : RdP w v ps) (hv : tbB f m ps = true) :
    Calls Try.prog 30 #[tbAgg f m v] w fun e w' => e = .returned (S (tbT f m ps)) ∧ Below w.heap.size w w' := by
  obtain ⟨-, hf, hm, -, hall, hsum⟩ := tbB_out hv
  obtain ⟨A, c, rfl, hpl, _⟩ := h.form
  have T := Lib.hid (fun (w' : World) (hb : Below w.heap.size w w') => implTableValid_any f m (.slice A ps.length c) ps w' (h.up hb) (by unfold maxLen; omega) (by unfold maxLen; omega))
  have W := Lib.hid (fun (w' : World) (hb : Below w.heap.size w w') => implWhole_any f m (.slice A ps.length c) ps w' (h.up hb) hall hsum (by omega) (by omega))
  rw [hv] at T
  clear h hv
  unfold tbAgg at *
  go_enter Try.func30, Try.ntmps30
  go_wp2_with fail
  refine (T.out _ (by (repeat (first | exact Below.refl _ _ | assumption | refine Below.drew ?_ | refine up_drewN ?_ _ | refine up_alloc ?_ _ | refine up_set ?_ _ _ (by first | exact Nat.le_refl _ | (simp; done) | (simp; omega) | omega) | refine up_trans ?_ (by assumption))))).mono ?_
  rintro e w1 ⟨rfl, hb⟩
  have xc : ∀ o, w1.cell? ⟨w.heap.size, o, none⟩ = #[S f, S m, .slice A ps.length c][o]? := (fun o => (hb.cell (p := ⟨w.heap.size, o, none⟩) (by simp <;> omega)).trans (by simp [go_sem])); have xf : ∀ o, w1.frozen? ⟨w.heap.size, o, none⟩ = false := (fun o => (hb.frozen (p := ⟨w.heap.size, o, none⟩) (by simp <;> omega)).trans (by simp [go_sem])); have xz : w.heap.size < w1.heap.size := (by have := hb.size; (try simp at this); omega); have xy := xz
  have hW : Below w.heap.size w w1 := by (repeat (first | exact Below.refl _ _ | assumption | refine Below.drew ?_ | refine up_drewN ?_ _ | refine up_alloc ?_ _ | refine up_set ?_ _ _ (by first | exact Nat.le_refl _ | (simp; done) | (simp; omega) | omega) | refine up_trans ?_ (by assumption)))
  clear hb T
  go_wp2_with fail
  refine (W.out _ (by (repeat (first | exact Below.refl _ _ | assumption | refine Below.drew ?_ | refine up_drewN ?_ _ | refine up_alloc ?_ _ | refine up_set ?_ _ _ (by first | exact Nat.le_refl _ | (simp; done) | (simp; omega) | omega) | refine up_trans ?_ (by assumption))))).mono ?_
  rintro e w2 ⟨rfl, hb⟩
  have hW2 : Below w.heap.size w w2 := by (repeat (first | exact Below.refl _ _ | assumption | refine Below.drew ?_ | refine up_drewN ?_ _ | refine up_alloc ?_ _ | refine up_set ?_ _ _ (by first | exact Nat.le_refl _ | (simp; done) | (simp; omega) | omega) | refine up_trans ?_ (by assumption)))
  clear hb W
  go_wp2_with fail
  go_ret
  exact ⟨rfl, hW2⟩

/-- a call that returns a valid table whose pieces are the call's own. -/
def TofPost (w : World) (e : Ending) (w' : World) : Prop := ∃ f m ps u, e = .returned (tbAgg f m u) ∧ tbB f m ps = true ∧ OwnP w' w.heap.size u ps ∧ Below w.heap.size w w'
theorem tb_nil : tbB [] [] [] = true := rfl
set_option maxRecDepth 100000 in
set_option maxHeartbeats 1000000 in
theorem specTableOf_any (s : List UInt8) (w : World) (hs : s.length ≤ maxLen) :
    Calls Try.prog 94 #[S s] w (TofPost w) := by
  obtain ⟨i0, hi0, hz0, hz1, hz2⟩ := info_parts piece_info
  unfold TofPost tbAgg
  have T := Lib.hid (fun w' => (specTextValid_any s w' hs).mono (R' := fun e w2 => e = .returned (.bool (tv s)) ∧ Below w'.heap.size w' w2) fun e w2 ⟨h, he⟩ => ⟨h, he ▸ Below.refl _ _⟩)
  rcases hv : tv s with _ | _
  · rw [hv] at T
    go_enter Try.func94, Try.ntmps94
    go_wp2_with fail
    refine (T.out _).mono ?_
    rintro e w1 ⟨rfl, hb⟩
    have yc : ∀ o, w1.cell? ⟨w.heap.size, o, none⟩ = #[S [], S [], .slice none 0 0][o]? := (fun o => (hb.cell (p := ⟨w.heap.size, o, none⟩) (by simp <;> omega)).trans (by simp [go_sem])); have yf : ∀ o, w1.frozen? ⟨w.heap.size, o, none⟩ = false := (fun o => (hb.frozen (p := ⟨w.heap.size, o, none⟩) (by simp <;> omega)).trans (by simp [go_sem])); have yz : w.heap.size < w1.heap.size := (by have := hb.size; (try simp at this); omega); have yy := yz
    have hW : Below w.heap.size w w1 := by (repeat (first | exact Below.refl _ _ | assumption | refine Below.drew ?_ | refine up_drewN ?_ _ | refine up_alloc ?_ _ | refine up_set ?_ _ _ (by first | exact Nat.le_refl _ | (simp; done) | (simp; omega) | omega) | refine up_trans ?_ (by assumption)))
    clear hb T
    go_wp2_with fail
    refine bodyPost_ret (v := .agg #[S [], S [], .slice none 0 0]) (by simp [results, Try.results94, go_sem, yc]) rfl ⟨[], [], [], .slice none 0 0, rfl, tb_nil, World.ownsRow_nil _ _ _ _, by (repeat (first | exact Below.refl _ _ | assumption | refine Below.drew ?_ | refine up_drewN ?_ _ | refine up_alloc ?_ _ | refine up_set ?_ _ _ (by first | exact Nat.le_refl _ | (simp; done) | (simp; omega) | omega) | refine up_trans ?_ (by assumption)))⟩
  · rw [hv] at T
    by_cases h0 : s = []
    · subst h0
      clear hv hs
      go_enter Try.func94, Try.ntmps94
      go_wp2_with fail
      refine (T.out _).mono ?_
      rintro e w1 ⟨rfl, hb⟩
      have yc : ∀ o, w1.cell? ⟨w.heap.size, o, none⟩ = #[S [], S [], .slice none 0 0][o]? := (fun o => (hb.cell (p := ⟨w.heap.size, o, none⟩) (by simp <;> omega)).trans (by simp [go_sem])); have yf : ∀ o, w1.frozen? ⟨w.heap.size, o, none⟩ = false := (fun o => (hb.frozen (p := ⟨w.heap.size, o, none⟩) (by simp <;> omega)).trans (by simp [go_sem])); have yz : w.heap.size < w1.heap.size := (by have := hb.size; (try simp at this); omega); have yy := yz
      have hW : Below w.heap.size w w1 := by (repeat (first | exact Below.refl _ _ | assumption | refine Below.drew ?_ | refine up_drewN ?_ _ | refine up_alloc ?_ _ | refine up_set ?_ _ _ (by first | exact Nat.le_refl _ | (simp; done) | (simp; omega) | omega) | refine up_trans ?_ (by assumption)))
      clear hb T
      have hne : ¬ w1.heap.size = w.heap.size := by omega
      have hne2 : ¬ w.heap.size = w1.heap.size := by omega
      go_wp2_with fail
      refine bodyPost_ret (v := .agg #[S [], S [], .slice none 0 0]) (by simp [results, Try.results94, go_sem, yc, yz, hne, hne2]) rfl ⟨[], [], [], .slice none 0 0, rfl, tb_nil, World.ownsRow_nil _ _ _ _, by (repeat (first | exact Below.refl _ _ | assumption | refine Below.drew ?_ | refine up_drewN ?_ _ | refine up_alloc ?_ _ | refine up_set ?_ _ _ (by first | exact Nat.le_refl _ | (simp; done) | (simp; omega) | omega) | refine up_trans ?_ (by assumption)))⟩
    · have he : s.isEmpty = false := by rw [← Bool.not_eq_true, List.isEmpty_iff]; exact h0
      have hl0 : 0 < s.length := List.length_pos_iff.2 h0
      have hl := tv_len hv
      have HB := Lib.hid (show tbB s [] [⟨false, 0, s.length⟩] = true from tbB_mk hv (by simp) rfl (by intro p hp; rw [List.mem_singleton] at hp; subst hp; unfold pcOk rmT; simp only [Bool.and_eq_true, Bool.false_eq_true, if_false]; exact ⟨inB_iff.2 (by omega), inB_iff.2 (by omega)⟩) (by show (s.length : Int) + 0 ≤ 120; omega))
      clear hv h0
      go_enter Try.func94, Try.ntmps94
      go_wp2_with fail
      refine (T.out _).mono ?_
      rintro e w1 ⟨rfl, hb⟩
      have yc : ∀ o, w1.cell? ⟨w.heap.size, o, none⟩ = #[S [], S [], .slice none 0 0][o]? := (fun o => (hb.cell (p := ⟨w.heap.size, o, none⟩) (by simp <;> omega)).trans (by simp [go_sem])); have yf : ∀ o, w1.frozen? ⟨w.heap.size, o, none⟩ = false := (fun o => (hb.frozen (p := ⟨w.heap.size, o, none⟩) (by simp <;> omega)).trans (by simp [go_sem])); have yz : w.heap.size < w1.heap.size := (by have := hb.size; (try simp at this); omega); have yy := yz
      have hW : Below w.heap.size w w1 := by (repeat (first | exact Below.refl _ _ | assumption | refine Below.drew ?_ | refine up_drewN ?_ _ | refine up_alloc ?_ _ | refine up_set ?_ _ _ (by first | exact Nat.le_refl _ | (simp; done) | (simp; omega) | omega) | refine up_trans ?_ (by assumption)))
      clear hb T
      have hne : ¬ w1.heap.size = w.heap.size := by omega
      have hne2 : ¬ w.heap.size = w1.heap.size := by omega
      go_upto_if 11 with (fail)
      go_wp2_with (at_builtin; go_loud (
                   refine wpList_append_own _ rfl _ _ 46 rfl (w1.heap.size + 1) 79 i0 (.agg #[.bool false, .int .i64 0, .int .i64 0]) 3 24 Try.underlying46 hi0 hz0 hz1 hz2 rfl (by decide) _ _ _ rfl (World.ownsRow_nil _ _ _ _) ⟨w1.heap.size + 1, 0, none⟩ 1 1 [.bool false, .int .i64 0, .int .i64 s.length] rfl (by simp) (by have := cells_new (w1.alloc (.cells #[S s, S [], .slice none 0 0] 48)) [.bool false, .int .i64 0, .int .i64 s.length] 79; rw [show (w1.alloc (.cells #[S s, S [], .slice none 0 0] 48)).heap.size = w1.heap.size + 1 by simp] at this; exact this) (by intro u hu; simp at hu; rcases hu with rfl | rfl | rfl <;> rfl) (by unfold maxLen; omega) (by omega) (by first | omega | (simp; done) | (simp; omega)) ?_
                   intro v2 w2 how hgr _
                   have HO2 := Lib.hid (show OwnP w2 (w1.heap.size + 1) v2 [⟨false, 0, s.length⟩] from how)
                   obtain ⟨A2, c2, rfl, -, -⟩ := (RdL.of_own (f := pcC) (bs := [⟨false, 0, s.length⟩]) HO2.out).form
                   have T2 := Lib.hid (show Is w2 w1.heap.size #[S s, S [], .slice none 0 0] from is_grown (is_alloc (new_is w1 _ _) (by simp) _) hgr (by first | omega | (simp; done) | (simp; omega)) (fun e => by cases (show some _ = (none : Option Nat) from e)))
                   have Y2 := Lib.hid (show Is w2 w.heap.size #[S [], S [], .slice none 0 0] from is_grown (is_alloc (is_alloc ⟨yc, yf⟩ yz _) (by first | omega | (simp; done) | (simp; omega)) _) hgr (by first | omega | (simp; done) | (simp; omega)) (fun e => by cases (show some _ = (none : Option Nat) from e)))
                   obtain ⟨tc, tf⟩ := T2.out
                   clear yc yf
                   obtain ⟨yc, yf⟩ := Y2.out
                   have hW2 : Below w.heap.size w w2 := up_grown (by (repeat (first | exact Below.refl _ _ | assumption | refine Below.drew ?_ | refine up_drewN ?_ _ | refine up_alloc ?_ _ | refine up_set ?_ _ _ (by first | exact Nat.le_refl _ | (simp; done) | (simp; omega) | omega) | refine up_trans ?_ (by assumption)))) hgr (by intro k hk; cases hk)
                   clear how hgr))
      go_wp2_with fail
      refine bodyPost_ret (v := .agg #[S s, S [], .slice A2 1 c2]) (by simp [results, Try.results94, go_sem, yc, yz, hne, hne2]) rfl ⟨s, [], _, _, rfl, HB.out, ?_, by (repeat (first | exact Below.refl _ _ | assumption | refine Below.drew ?_ | refine up_drewN ?_ _ | refine up_alloc ?_ _ | refine up_set ?_ _ _ (by first | exact Nat.le_refl _ | (simp; done) | (simp; omega) | omega) | refine up_trans ?_ (by assumption)))⟩
      exact own_base (own_set (own_set (own_set (own_set HO2.out _ _ (by simp)) _ _ (by simp <;> omega)) _ _ (by simp <;> omega)) _ _ (by simp <;> omega)) (by omega)

set_option maxRecDepth 100000 in
set_option maxHeartbeats 2000000 in
theorem samePieces_same (f m : List UInt8) (u v : Value) (ps : List Pc) (w : World) (hu : RdP w u ps) (hv : RdP w v ps) :
    Calls Try.prog 28 #[tbAgg f m u, tbAgg f m v] w fun e w' => e = .returned (.bool true) ∧ Below w.heap.size w w' := by
  obtain ⟨A, c, rfl, hm, _⟩ := hu.form
  obtain ⟨B, d, rfl, _, _⟩ := hv.form
  unfold maxLen at hm
  have HU := Lib.hid hu
  have HV := Lib.hid hv
  clear hu hv
  unfold tbAgg
  go_enter Try.func28, Try.ntmps28
  go_upto_region 3 with (fail)
  obtain ⟨w1, hw1⟩ : ∃ z, z = (w.alloc (.cells #[S f, S m, .slice A ps.length c] 48)).alloc (.cells #[S f, S m, .slice B ps.length d] 48) := ⟨_, rfl⟩
  have hb : Below ((w.alloc (.cells #[S f, S m, .slice A ps.length c] 48)).alloc (.cells #[S f, S m, .slice B ps.length d] 48)).heap.size ((w.alloc (.cells #[S f, S m, .slice A ps.length c] 48)).alloc (.cells #[S f, S m, .slice B ps.length d] 48)) w1 := by rw [hw1]; exact Below.refl _ _
  rw [← hw1]
  have xc : ∀ o, w1.cell? ⟨w.heap.size, o, none⟩ = #[S f, S m, .slice A ps.length c][o]? := (fun o => (hb.cell (p := ⟨w.heap.size, o, none⟩) (by simp <;> omega)).trans (by simp [go_sem])); have xf : ∀ o, w1.frozen? ⟨w.heap.size, o, none⟩ = false := (fun o => (hb.frozen (p := ⟨w.heap.size, o, none⟩) (by simp <;> omega)).trans (by simp [go_sem])); have xz : w.heap.size < w1.heap.size := (by have := hb.size; (try simp at this); omega); have xy := xz
  have yc : ∀ o, w1.cell? ⟨w.heap.size + 1, o, none⟩ = #[S f, S m, .slice B ps.length d][o]? := (fun o => (hb.cell (p := ⟨w.heap.size + 1, o, none⟩) (by simp <;> omega)).trans (by simp [go_sem])); have yf : ∀ o, w1.frozen? ⟨w.heap.size + 1, o, none⟩ = false := (fun o => (hb.frozen (p := ⟨w.heap.size + 1, o, none⟩) (by simp <;> omega)).trans (by simp [go_sem])); have yz : w.heap.size + 1 < w1.heap.size := (by have := hb.size; (try simp at this); omega); have yy := yz
  have hW : Below w.heap.size w w1 := by (repeat (first | exact Below.refl _ _ | assumption | refine Below.drew ?_ | refine up_drewN ?_ _ | refine up_alloc ?_ _ | refine up_set ?_ _ _ (by first | exact Nat.le_refl _ | (simp; done) | (simp; omega) | omega) | refine up_trans ?_ (by assumption)))
  clear hb hw1
  go_wp2_with fail
  go_loopw [5] (fun i wr => ∃ k : Nat, k ≤ ps.length ∧ i = .int .i64 k ∧ Hid (Below w1.heap.size w1 wr)) (fun i _ => ps.length - (intOf i).toNat)
  case atStart => exact ⟨0, Nat.zero_le _, rfl, Lib.hid (Below.refl _ _)⟩
  case round =>
    obtain ⟨k, hk, rfl, HW⟩ := hrel
    have xc2 := up_c HW.out xz xc
    have yc2 := up_c HW.out yz yc
    have hW2 := up_trans hW HW.out
    by_cases hlt : k < ps.length
    · have i1 : (0 : Int) ≤ (k : Int) := by omega
      have i2 : (k : Int) < (ps.length : Int) := by omega
      obtain ⟨b1, o1, rfl, hbz1, c0, c1, c2⟩ := rdP_cells (HU.out.up hW2) hlt
      obtain ⟨b2, o2, rfl, hbz2, d0, d1, d2⟩ := rdP_cells (HV.out.up hW2) hlt
      obtain ⟨x, hx⟩ : ∃ x, x = ps[k] := ⟨_, rfl⟩
      rw [← hx] at c0 c1 c2 d0 d1 d2
      clear hx
      obtain ⟨ad, st, sz⟩ := x
      simp only at c0 c1 c2 d0 d1 d2
      clear xc yc xf yf
      go_wp2_with fail
      go_quiet (fail)
      go_wp2_with fail
      go_roundw
      case rel => exact ⟨k + 1, by omega, by go_num, Lib.hid (by have := HW.out; (repeat (first | exact Below.refl _ _ | assumption | refine Below.drew ?_ | refine up_drewN ?_ _ | refine up_alloc ?_ _ | refine up_set ?_ _ _ (by first | exact Nat.le_refl _ | (simp; done) | (simp; omega) | omega) | refine up_trans ?_ (by assumption))))⟩
      case measure => simp [intOf]; omega
    · clear xc yc
      go_wp2_with fail
      go_ret
      exact ⟨rfl, by have := HW.out; (repeat (first | exact Below.refl _ _ | assumption | refine Below.drew ?_ | refine up_drewN ?_ _ | refine up_alloc ?_ _ | refine up_set ?_ _ _ (by first | exact Nat.le_refl _ | (simp; done) | (simp; omega) | omega) | refine up_trans ?_ (by assumption)))⟩

end Go.Proofs.Ytlejfmngpbcdhaa
