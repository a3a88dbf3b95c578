/- What is proved here: contracts of EditorAfresh in the program and in the reference. Condition: what the library's variables hold. -/
import Derived.Test.YtbjlkdenkmbepaaGreatDoorEd0
import Derived.Test.YtbjlkdenkmbepaaGreatDoorRcH
import Derived.Test.YtbjlkdenkmbepaaGreatDoorRcP
import Derived.Test.YtbjlkdenkmbepaaGreatDoorEverL
namespace Go.Proofs.YtbjlkdenkmbepaaGreatDoor
open Go.RowKit
set_option linter.unusedVariables false

/-- a row of texts that can be read. -/
def tRowS (rs : List (List UInt8)) : Ty (RS []) := ⟨fun v w => RdL w 1 strC v rs, fun _ _ _ hR h => h.up hR.to_below⟩
theorem hrF_mem (ms : List Mo) : ∀ (n : Nat) (k : Int), ∀ r ∈ hrF ms n k, ∃ a b p, r = recT a b p
  | 0, _, r, h => by simp [hrF] at h
  | n + 1, k, r, h => by
    rw [hrF] at h
    split at h
    · rw [List.mem_append, List.mem_singleton] at h
      rcases h with h | h
      · exact hrF_mem ms n _ r h
      · exact ⟨_, _, _, h⟩
    · simp at h
theorem rec_short (a b : Int) (p : List UInt8) : (recT a b p).length ≤ 252 := by
  unfold recT
  split
  · rename_i hk
    unfold recOk at hk
    simp only [Bool.and_eq_true, inB_iff] at hk
    exact (recX_len (by omega) (by omega) (tv_len hk.2)).2
  · simp
/-- what the law compares. -/
theorem hr_law {ms : List Mo} {k : Nat} {s : List UInt8} {o : List (List UInt8)} (h : HGood ms (k : Int) s o) :
    plS (o.getD 0 []) (hrR ms k) = s ∧ plN (o.getD 0 []) (hrR ms k) = ((hrR ms k).length : Nat) ∧ (hrR ms k).length < ms.length := by
  have h1 := h.a1
  have hk : k < ms.length := by omega
  have hp := hrF_play h ms.length k (by omega) hk
  have h30 : (hrR ms k).length ≤ 30 := by have := h.n30; have := hp.2; unfold hrR; omega
  have hs := h.at_
  simp only [Int.toNat_natCast] at hs
  unfold plS plN
  rw [if_pos ⟨h.first, h30⟩, if_pos ⟨h.first, h30⟩]
  unfold hrR
  rw [hp.1]
  exact ⟨hs, rfl, Nat.lt_of_le_of_lt hp.2 hk⟩

set_option maxRecDepth 100000 in
set_option maxHeartbeats 2000000 in
theorem implEditorAfresh_no (v : Value) (ms : List Mo) (pa : Int) (s : List UInt8) (x : Int) (cl : List UInt8) (w : World) (h : RdM w v ms) (hn : ms.length ≤ 1048576) (hs : s.length ≤ maxLen) (hc : cl.length ≤ maxLen) (hg : ¬ EdOk ms pa s x cl) :
    Calls Tryz.prog 35 #[edAgg s x cl v pa] w fun e w' => e = .returned (.tuple #[S [], .int .i64 (-1)]) ∧ Below w.heap.size w w' := by
  obtain ⟨A, c, rfl, _, _⟩ := h.1.form
  have T := Lib.hid (fun (w' : World) (hb : Below w.heap.size w w') => implEditorValid_any (.slice A ms.length c) ms pa s x cl w' (h.up hb) hn hs hc)
  have HP := Lib.hid hg
  clear h hg
  unfold edAgg at T ⊢
  go_enter Tryz.func35, Tryz.ntmps35
  go_wp2_with fail
  refine (T.out _ (by (repeat (first | exact Below.refl _ _ | assumption | refine Below.drew ?_ | refine up_drewN ?_ _ | refine up_alloc ?_ _ | refine up_set ?_ _ _ (by first | exact Nat.le_refl _ | (simp; done) | (simp; omega) | omega) | refine up_trans ?_ (by assumption))))).mono ?_
  rintro e w1 ⟨ok, rfl, hh, hb⟩
  have xc : ∀ o, w1.cell? ⟨w.heap.size, o, none⟩ = #[S s, .int .i64 x, S cl, .slice A ms.length c, .int .i64 pa][o]? := (fun o => (hb.cell (p := ⟨w.heap.size, o, none⟩) (by simp <;> omega)).trans (by simp [go_sem])); have xf : ∀ o, w1.frozen? ⟨w.heap.size, o, none⟩ = false := (fun o => (hb.frozen (p := ⟨w.heap.size, o, none⟩) (by simp <;> omega)).trans (by simp [go_sem])); have xz : w.heap.size < w1.heap.size := (by have := hb.size; (try simp at this); omega); have xy := xz
  have hW : Below w.heap.size w w1 := by (repeat (first | exact Below.refl _ _ | assumption | refine Below.drew ?_ | refine up_drewN ?_ _ | refine up_alloc ?_ _ | refine up_set ?_ _ _ (by first | exact Nat.le_refl _ | (simp; done) | (simp; omega) | omega) | refine up_trans ?_ (by assumption)))
  clear hb T
  rcases ok with _ | _
  · clear hh
    go_wp2_with fail
    go_ret2
    exact ⟨rfl, hW⟩
  · exact absurd (hh.1 rfl) HP.out
set_option maxRecDepth 100000 in
set_option maxHeartbeats 2000000 in
theorem implEditorAfresh_yes (v : Value) (ms : List Mo) (pa : Int) (s : List UInt8) (x : Int) (cl : List UInt8) (w : World) (h : RdM w v ms) (hg : EdOk ms pa s x cl) (hL : LW w) :
    Calls Tryz.prog 35 #[edAgg s x cl v pa] w fun e w' => e = .returned (.tuple #[S s, .int .i64 ((hrR ms pa).length : Nat)]) ∧ Below w.heap.size w w' := by
  have hok := hg
  obtain ⟨⟨o, hg⟩, -, hcl⟩ := hg
  have hn : ms.length ≤ 1048576 := by have := hg.n30; omega
  have hs : s.length ≤ maxLen := by have := tv_len hg.t; unfold maxLen; omega
  have hc : cl.length ≤ maxLen := by have := tv_len hcl; unfold maxLen; omega
  obtain ⟨A, c, rfl, _, _⟩ := h.1.form
  obtain ⟨k, rfl⟩ : ∃ k : Nat, pa = k := ⟨pa.toNat, by have := hg.a0; omega⟩
  obtain ⟨l1, l2, l3⟩ := hr_law hg
  have hrl : ∀ r ∈ hrR ms k, r.length ≤ 1048576 := fun r hr => by
    obtain ⟨x, y, p, rfl⟩ := hrF_mem ms _ _ r hr
    exact Nat.le_trans (rec_short x y p) (by omega)
  have h0l := tv_len hg.first
  have h30 : (hrR ms k).length ≤ 1048576 := by have := hg.n30; omega
  have T := Lib.hid (fun (w' : World) (hb : Below w.heap.size w w') => implEditorValid_any (.slice A ms.length c) ms k s x cl w' (h.up hb) hn hs hc)
  have F : Hid (∀ (w' : World), Below w.heap.size w w' → Calls Tryz.prog 33 #[edAgg s x cl (.slice A ms.length c) k] w' (fun e w'' => e = .returned (S (o.getD 0 [])) ∧ Below w'.heap.size w' w'')) := Lib.hid (fun w' hb => (implEditorFirst_any (.slice A ms.length c) ms k s x cl w' (h.up hb) hn hs hc).mono (by rintro e w'' ⟨t, he, _, ht, hb'⟩; exact ⟨by rw [he, ht o hok hg], hb'⟩))
  have R := Lib.hid (fun (w' : World) (hb : Below w.heap.size w w') => implHr_yes (.slice A ms.length c) ms k s w' o (h.up hb) hg (hL.lt.up hb))
  have P := Lib.hid (fun v w hv hw => implPlay_any (o.getD 0 []) v (hrR ms k) w (by omega) hv hrl hw)
  rw [l1, l2] at P
  generalize o.getD 0 [] = q0 at *
  generalize hrR ms k = rs at *
  unfold HrPost at R
  have HL := Lib.hid hL
  have HP := Lib.hid hok
  clear h hok hg l1 l2 l3 hrl h0l hn hs hc hcl h30 hL
  unfold edAgg at T F ⊢
  go_enter Tryz.func35, Tryz.ntmps35
  go_wp2_with fail
  refine (T.out _ (by (repeat (first | exact Below.refl _ _ | assumption | refine Below.drew ?_ | refine up_drewN ?_ _ | refine up_alloc ?_ _ | refine up_set ?_ _ _ (by first | exact Nat.le_refl _ | (simp; done) | (simp; omega) | omega) | refine up_trans ?_ (by assumption))))).mono ?_
  rintro e w1 ⟨ok, rfl, hh, hb⟩
  have xc : ∀ o, w1.cell? ⟨w.heap.size, o, none⟩ = #[S s, .int .i64 x, S cl, .slice A ms.length c, .int .i64 k][o]? := (fun o => (hb.cell (p := ⟨w.heap.size, o, none⟩) (by simp <;> omega)).trans (by simp [go_sem])); have xf : ∀ o, w1.frozen? ⟨w.heap.size, o, none⟩ = false := (fun o => (hb.frozen (p := ⟨w.heap.size, o, none⟩) (by simp <;> omega)).trans (by simp [go_sem])); have xz : w.heap.size < w1.heap.size := (by have := hb.size; (try simp at this); omega); have xy := xz
  have hW : Below w.heap.size w w1 := by (repeat (first | exact Below.refl _ _ | assumption | refine Below.drew ?_ | refine up_drewN ?_ _ | refine up_alloc ?_ _ | refine up_set ?_ _ _ (by first | exact Nat.le_refl _ | (simp; done) | (simp; omega) | omega) | refine up_trans ?_ (by assumption)))
  obtain rfl : ok = true := hh.2 HP.out
  have HW := Lib.hid hW
  clear hb T hh hW HP
  go_upto_region 3 with (fail)
  --EVER{impl.EditorAfresh;3;edaimpl}
  refine wp_region_ever (R := RS []) (M := fun _ _ => True) [tEq _ (.agg #[S s, .int .i64 x, S cl, .slice A ms.length c, .int .i64 k]), tEq _ (S q0), tEq _ (.pointer (some ⟨w.heap.size, 3, none⟩)), tEq _ (.agg #[.slice A ms.length c, .int .i64 k]), tEq _ (.pointer (some ⟨w.heap.size, 0, none⟩)), tEq _ (S s), tRowS rs, tEq _ (.tuple #[S s, .int .i64 (rs.length : Nat)]), tEq _ (S s), tEq _ (.int .i64 (rs.length : Nat)), tEq _ (S s), tEq _ (.int .i64 (rs.length : Nat))] (by kernel_rfl) (RS.refl _) (fun _ _ _ => RS.trans) (by kernel_rfl) (trivial) ?_ ?_
  · refine ⟨?_, ?_, ?_, ?_, ?_, ?_, ?_, ?_, ?_, ?_, ?_, ?_, trivial⟩
    · intro k' w' ρ hk' hR hM hF
      replace hk' : k' < 12 := hk'
      obtain ⟨f0, -⟩ := hF
      replace f0 : ρ (.tmp 1) = .pointer (some ⟨w.heap.size, 0, none⟩) := f0
      refine good_of fun K hK => ?_
      have z0 := (hR.of_drew.cell xz (by simp) 0).trans (xc 0); have z1 := (hR.of_drew.cell xz (by simp) 1).trans (xc 1); have z2 := (hR.of_drew.cell xz (by simp) 2).trans (xc 2); have z3 := (hR.of_drew.cell xz (by simp) 3).trans (xc 3); have z4 := (hR.of_drew.cell xz (by simp) 4).trans (xc 4); go_simp; exact hK _ _ (RS.refl _ _) (trivial) rfl
    · intro k' w' ρ hk' hR hM hF
      replace hk' : k' < 12 := hk'
      obtain ⟨f0, f1, -⟩ := hF
      replace f0 : ρ (.func _) = .func (.func _) #[] #[] := f0
      replace f1 : ρ (.tmp 7) = .agg #[S s, .int .i64 x, S cl, .slice A ms.length c, .int .i64 k] := f1
      refine good_of fun K hK => ?_
      go_simp; refine (F.out _ (up_trans HW.out hR.of_drew.to_below)).mono ?_; rintro e wc ⟨rfl, hb⟩; exact ⟨_, rfl, hK _ _ ((RS.refl _ _).below hb) trivial rfl⟩
    · intro k' w' ρ hk' hR hM hF
      replace hk' : k' < 12 := hk'
      obtain ⟨f0, -⟩ := hF
      replace f0 : ρ (.tmp 1) = .pointer (some ⟨w.heap.size, 0, none⟩) := f0
      refine good_of fun K hK => ?_
      go_simp
      exact hK _ _ (RS.refl _ _) (trivial) (rfl)
    · intro k' w' ρ hk' hR hM hF
      replace hk' : k' < 12 := hk'
      obtain ⟨f0, -⟩ := hF
      replace f0 : ρ (.tmp 9) = .pointer (some ⟨w.heap.size, 3, none⟩) := f0
      refine good_of fun K hK => ?_
      have z3 := (hR.of_drew.cell xz (by simp) 3).trans (xc 3); have z4 := (hR.of_drew.cell xz (by simp) 4).trans (xc 4); go_simp; exact hK _ _ (RS.refl _ _) trivial rfl
    · intro k' w' ρ hk' hR hM hF
      replace hk' : k' < 12 := hk'
      obtain ⟨f0, -⟩ := hF
      replace f0 : ρ (.tmp 1) = .pointer (some ⟨w.heap.size, 0, none⟩) := f0
      refine good_of fun K hK => ?_
      go_simp
      exact hK _ _ (RS.refl _ _) (trivial) (rfl)
    · intro k' w' ρ hk' hR hM hF
      replace hk' : k' < 12 := hk'
      obtain ⟨f0, -⟩ := hF
      replace f0 : ρ (.tmp 11) = .pointer (some ⟨w.heap.size, 0, none⟩) := f0
      refine good_of fun K hK => ?_
      have z0 := (hR.of_drew.cell xz (by simp) 0).trans (xc 0); go_simp; exact hK _ _ (RS.refl _ _) trivial rfl
    · intro k' w' ρ hk' hR hM hF
      replace hk' : k' < 12 := hk'
      obtain ⟨f0, f1, f2, -⟩ := hF
      replace f0 : ρ (.func _) = .func (.func _) #[] #[] := f0
      replace f1 : ρ (.tmp 10) = .agg #[.slice A ms.length c, .int .i64 k] := f1
      replace f2 : ρ (.tmp 12) = S s := f2
      refine good_of fun K hK => ?_
      go_simp; refine (R.out _ (up_trans HW.out hR.of_drew.to_below)).mono ?_; rintro e wc ⟨u, rfl, ho, hb⟩; exact ⟨_, rfl, hK _ _ ((RS.refl _ _).below hb) trivial (RdL.of_own (f := strC) (bs := rs) ho)⟩
    · intro k' w' ρ hk' hR hM hF
      replace hk' : k' < 12 := hk'
      obtain ⟨f0, f1, f2, -⟩ := hF
      replace f0 : ρ (.func _) = .func (.func _) #[] #[] := f0
      replace f1 : ρ (.tmp 8) = S q0 := f1
      refine good_of fun K hK => ?_
      have F1 := f1; obtain ⟨vv, hvv⟩ : ∃ z, z = ρ (.tmp 13) := ⟨_, rfl⟩; replace f2 : RdL w' 1 strC (ρ (.tmp 13)) rs := f2; rw [← hvv] at f2; have hvv2 : ρ (.tmp 13) = vv := hvv.symm; obtain ⟨RA, RC, rfl, -, -⟩ := f2.form; have HU := Lib.hid f2; clear f2 hvv; go_simp; refine (P.out _ _ HU.out (HL.out.up (up_trans HW.out hR.of_drew.to_below))).mono ?_; rintro e wc ⟨rfl, hb⟩; exact ⟨_, rfl, hK _ _ ((RS.refl _ _).below hb) trivial rfl⟩
    · intro k' w' ρ hk' hR hM hF
      replace hk' : k' < 12 := hk'
      obtain ⟨f0, -⟩ := hF
      replace f0 : ρ (.tmp 14) = .tuple #[S s, .int .i64 (rs.length : Nat)] := f0
      refine good_of fun K hK => ?_
      go_simp
      exact hK _ _ (RS.refl _ _) (trivial) (rfl)
    · intro k' w' ρ hk' hR hM hF
      replace hk' : k' < 12 := hk'
      obtain ⟨f0, -⟩ := hF
      replace f0 : ρ (.tmp 14) = .tuple #[S s, .int .i64 (rs.length : Nat)] := f0
      refine good_of fun K hK => ?_
      go_simp
      exact hK _ _ (RS.refl _ _) (trivial) (rfl)
    · intro k' w' ρ hk' hR hM hF
      replace hk' : k' < 12 := hk'
      obtain ⟨f0, -⟩ := hF
      replace f0 : ρ (.tmp 15) = S s := f0
      exact ⟨RS.refl _ _, trivial, f0⟩
    · intro k' w' ρ hk' hR hM hF
      replace hk' : k' < 12 := hk'
      obtain ⟨f0, -⟩ := hF
      replace f0 : ρ (.tmp 16) = .int .i64 (rs.length : Nat) := f0
      exact ⟨RS.refl _ _, trivial, f0⟩
  · intro w' hR hM
    rintro _ rfl
    rintro _ rfl
    rintro _ rfl
    rintro _ rfl
    rintro _ rfl
    rintro _ rfl
    rintro _ -
    rintro _ rfl
    rintro _ rfl
    rintro _ rfl
    rintro _ rfl
    rintro _ rfl
  --END
    dsimp only [EndAll, Act.put]
    obtain ⟨w7, rfl⟩ : ∃ z, z = w' := ⟨_, rfl⟩
    have hW := up_trans HW.out (show Below w1.heap.size w1 w7 from hR.of_drew.to_below)
    clear hR hM HW R P F HL
    simp only [List.setIfInBounds_toArray, List.set_cons_zero, List.set_cons_succ]
    go_wp2_with fail
    refine bodyPost_ret (v := .tuple #[S s, .int .i64 (rs.length : Nat)]) (by simp [results, Tryz.results35, go_sem]) rfl ⟨rfl, hW⟩
set_option maxRecDepth 100000 in
set_option maxHeartbeats 2000000 in
theorem specEditorAfresh_no (v : Value) (ms : List Mo) (pa : Int) (s : List UInt8) (x : Int) (cl : List UInt8) (w : World) (h : RdM w v ms) (hn : ms.length ≤ 1048576) (hs : s.length ≤ maxLen) (hc : cl.length ≤ maxLen) (hg : ¬ EdOk ms pa s x cl) :
    Calls Tryz.prog 34 #[edAgg s x cl v pa] w fun e w' => e = .returned (.tuple #[S [], .int .i64 (-1)]) ∧ Below w.heap.size w w' := by
  obtain ⟨A, c, rfl, _, _⟩ := h.1.form
  have T := Lib.hid (fun (w' : World) (hb : Below w.heap.size w w') => specEditorValid_any (.slice A ms.length c) ms pa s x cl w' (h.up hb) hn hs hc)
  have HP := Lib.hid hg
  clear h hg
  unfold edAgg at T ⊢
  go_enter Tryz.func34, Tryz.ntmps34
  go_wp2_with fail
  refine (T.out _ (by (repeat (first | exact Below.refl _ _ | assumption | refine Below.drew ?_ | refine up_drewN ?_ _ | refine up_alloc ?_ _ | refine up_set ?_ _ _ (by first | exact Nat.le_refl _ | (simp; done) | (simp; omega) | omega) | refine up_trans ?_ (by assumption))))).mono ?_
  rintro e w1 ⟨ok, rfl, hh, hb⟩
  have xc : ∀ o, w1.cell? ⟨w.heap.size, o, none⟩ = #[S s, .int .i64 x, S cl, .slice A ms.length c, .int .i64 pa][o]? := (fun o => (hb.cell (p := ⟨w.heap.size, o, none⟩) (by simp <;> omega)).trans (by simp [go_sem])); have xf : ∀ o, w1.frozen? ⟨w.heap.size, o, none⟩ = false := (fun o => (hb.frozen (p := ⟨w.heap.size, o, none⟩) (by simp <;> omega)).trans (by simp [go_sem])); have xz : w.heap.size < w1.heap.size := (by have := hb.size; (try simp at this); omega); have xy := xz
  have hW : Below w.heap.size w w1 := by (repeat (first | exact Below.refl _ _ | assumption | refine Below.drew ?_ | refine up_drewN ?_ _ | refine up_alloc ?_ _ | refine up_set ?_ _ _ (by first | exact Nat.le_refl _ | (simp; done) | (simp; omega) | omega) | refine up_trans ?_ (by assumption)))
  clear hb T
  rcases ok with _ | _
  · clear hh
    go_wp2_with fail
    go_ret2
    exact ⟨rfl, hW⟩
  · exact absurd (hh.1 rfl) HP.out
set_option maxRecDepth 100000 in
set_option maxHeartbeats 2000000 in
theorem specEditorAfresh_yes (v : Value) (ms : List Mo) (pa : Int) (s : List UInt8) (x : Int) (cl : List UInt8) (w : World) (h : RdM w v ms) (hg : EdOk ms pa s x cl) :
    Calls Tryz.prog 34 #[edAgg s x cl v pa] w fun e w' => e = .returned (.tuple #[S s, .int .i64 ((hrR ms pa).length : Nat)]) ∧ Below w.heap.size w w' := by
  have hok := hg
  obtain ⟨⟨o, hg⟩, -, hcl⟩ := hg
  have hn : ms.length ≤ 1048576 := by have := hg.n30; omega
  have hs : s.length ≤ maxLen := by have := tv_len hg.t; unfold maxLen; omega
  have hc : cl.length ≤ maxLen := by have := tv_len hcl; unfold maxLen; omega
  obtain ⟨A, c, rfl, _, _⟩ := h.1.form
  obtain ⟨k, rfl⟩ : ∃ k : Nat, pa = k := ⟨pa.toNat, by have := hg.a0; omega⟩
  obtain ⟨l1, l2, l3⟩ := hr_law hg
  have hrl : ∀ r ∈ hrR ms k, r.length ≤ 1048576 := fun r hr => by
    obtain ⟨x, y, p, rfl⟩ := hrF_mem ms _ _ r hr
    exact Nat.le_trans (rec_short x y p) (by omega)
  have h0l := tv_len hg.first
  have h30 : (hrR ms k).length ≤ 1048576 := by have := hg.n30; omega
  have T := Lib.hid (fun (w' : World) (hb : Below w.heap.size w w') => specEditorValid_any (.slice A ms.length c) ms k s x cl w' (h.up hb) hn hs hc)
  have F : Hid (∀ (w' : World), Below w.heap.size w w' → Calls Tryz.prog 41 #[edAgg s x cl (.slice A ms.length c) k] w' (fun e w'' => e = .returned (S (o.getD 0 [])) ∧ Below w'.heap.size w' w'')) := Lib.hid (fun w' hb => (specEditorFirst_any (.slice A ms.length c) ms k s x cl w' (h.up hb) hn hs hc).mono (by rintro e w'' ⟨t, he, _, ht, hb'⟩; exact ⟨by rw [he, ht o hok hg], hb'⟩))
  have R := Lib.hid (fun (w' : World) (hb : Below w.heap.size w w') => specHr_yes (.slice A ms.length c) ms k s w' o (h.up hb) hg)
  have P := Lib.hid (fun v w hv => specPlay_any (o.getD 0 []) v (hrR ms k) w (by omega) hv hrl)
  rw [l1, l2] at P
  generalize o.getD 0 [] = q0 at *
  generalize hrR ms k = rs at *
  unfold HrPost at R
  have HL := Lib.hid (trivial : True)
  have HP := Lib.hid hok
  clear h hok hg l1 l2 l3 hrl h0l hn hs hc hcl h30
  unfold edAgg at T F ⊢
  go_enter Tryz.func34, Tryz.ntmps34
  go_wp2_with fail
  refine (T.out _ (by (repeat (first | exact Below.refl _ _ | assumption | refine Below.drew ?_ | refine up_drewN ?_ _ | refine up_alloc ?_ _ | refine up_set ?_ _ _ (by first | exact Nat.le_refl _ | (simp; done) | (simp; omega) | omega) | refine up_trans ?_ (by assumption))))).mono ?_
  rintro e w1 ⟨ok, rfl, hh, hb⟩
  have xc : ∀ o, w1.cell? ⟨w.heap.size, o, none⟩ = #[S s, .int .i64 x, S cl, .slice A ms.length c, .int .i64 k][o]? := (fun o => (hb.cell (p := ⟨w.heap.size, o, none⟩) (by simp <;> omega)).trans (by simp [go_sem])); have xf : ∀ o, w1.frozen? ⟨w.heap.size, o, none⟩ = false := (fun o => (hb.frozen (p := ⟨w.heap.size, o, none⟩) (by simp <;> omega)).trans (by simp [go_sem])); have xz : w.heap.size < w1.heap.size := (by have := hb.size; (try simp at this); omega); have xy := xz
  have hW : Below w.heap.size w w1 := by (repeat (first | exact Below.refl _ _ | assumption | refine Below.drew ?_ | refine up_drewN ?_ _ | refine up_alloc ?_ _ | refine up_set ?_ _ _ (by first | exact Nat.le_refl _ | (simp; done) | (simp; omega) | omega) | refine up_trans ?_ (by assumption)))
  obtain rfl : ok = true := hh.2 HP.out
  have HW := Lib.hid hW
  clear hb T hh hW HP
  go_upto_region 3 with (fail)
  --EVER{spec.EditorAfresh;3;edaspec}
  refine wp_region_ever (R := RS []) (M := fun _ _ => True) [tEq _ (.agg #[S s, .int .i64 x, S cl, .slice A ms.length c, .int .i64 k]), tEq _ (S q0), tEq _ (.pointer (some ⟨w.heap.size, 3, none⟩)), tEq _ (.agg #[.slice A ms.length c, .int .i64 k]), tEq _ (.pointer (some ⟨w.heap.size, 0, none⟩)), tEq _ (S s), tRowS rs, tEq _ (.tuple #[S s, .int .i64 (rs.length : Nat)]), tEq _ (S s), tEq _ (.int .i64 (rs.length : Nat)), tEq _ (S s), tEq _ (.int .i64 (rs.length : Nat))] (by kernel_rfl) (RS.refl _) (fun _ _ _ => RS.trans) (by kernel_rfl) (trivial) ?_ ?_
  · refine ⟨?_, ?_, ?_, ?_, ?_, ?_, ?_, ?_, ?_, ?_, ?_, ?_, trivial⟩
    · intro k' w' ρ hk' hR hM hF
      replace hk' : k' < 12 := hk'
      obtain ⟨f0, -⟩ := hF
      replace f0 : ρ (.tmp 1) = .pointer (some ⟨w.heap.size, 0, none⟩) := f0
      refine good_of fun K hK => ?_
      have z0 := (hR.of_drew.cell xz (by simp) 0).trans (xc 0); have z1 := (hR.of_drew.cell xz (by simp) 1).trans (xc 1); have z2 := (hR.of_drew.cell xz (by simp) 2).trans (xc 2); have z3 := (hR.of_drew.cell xz (by simp) 3).trans (xc 3); have z4 := (hR.of_drew.cell xz (by simp) 4).trans (xc 4); go_simp; exact hK _ _ (RS.refl _ _) (trivial) rfl
    · intro k' w' ρ hk' hR hM hF
      replace hk' : k' < 12 := hk'
      obtain ⟨f0, f1, -⟩ := hF
      replace f0 : ρ (.func _) = .func (.func _) #[] #[] := f0
      replace f1 : ρ (.tmp 7) = .agg #[S s, .int .i64 x, S cl, .slice A ms.length c, .int .i64 k] := f1
      refine good_of fun K hK => ?_
      go_simp; refine (F.out _ (up_trans HW.out hR.of_drew.to_below)).mono ?_; rintro e wc ⟨rfl, hb⟩; exact ⟨_, rfl, hK _ _ ((RS.refl _ _).below hb) trivial rfl⟩
    · intro k' w' ρ hk' hR hM hF
      replace hk' : k' < 12 := hk'
      obtain ⟨f0, -⟩ := hF
      replace f0 : ρ (.tmp 1) = .pointer (some ⟨w.heap.size, 0, none⟩) := f0
      refine good_of fun K hK => ?_
      go_simp
      exact hK _ _ (RS.refl _ _) (trivial) (rfl)
    · intro k' w' ρ hk' hR hM hF
      replace hk' : k' < 12 := hk'
      obtain ⟨f0, -⟩ := hF
      replace f0 : ρ (.tmp 9) = .pointer (some ⟨w.heap.size, 3, none⟩) := f0
      refine good_of fun K hK => ?_
      have z3 := (hR.of_drew.cell xz (by simp) 3).trans (xc 3); have z4 := (hR.of_drew.cell xz (by simp) 4).trans (xc 4); go_simp; exact hK _ _ (RS.refl _ _) trivial rfl
    · intro k' w' ρ hk' hR hM hF
      replace hk' : k' < 12 := hk'
      obtain ⟨f0, -⟩ := hF
      replace f0 : ρ (.tmp 1) = .pointer (some ⟨w.heap.size, 0, none⟩) := f0
      refine good_of fun K hK => ?_
      go_simp
      exact hK _ _ (RS.refl _ _) (trivial) (rfl)
    · intro k' w' ρ hk' hR hM hF
      replace hk' : k' < 12 := hk'
      obtain ⟨f0, -⟩ := hF
      replace f0 : ρ (.tmp 11) = .pointer (some ⟨w.heap.size, 0, none⟩) := f0
      refine good_of fun K hK => ?_
      have z0 := (hR.of_drew.cell xz (by simp) 0).trans (xc 0); go_simp; exact hK _ _ (RS.refl _ _) trivial rfl
    · intro k' w' ρ hk' hR hM hF
      replace hk' : k' < 12 := hk'
      obtain ⟨f0, f1, f2, -⟩ := hF
      replace f0 : ρ (.func _) = .func (.func _) #[] #[] := f0
      replace f1 : ρ (.tmp 10) = .agg #[.slice A ms.length c, .int .i64 k] := f1
      replace f2 : ρ (.tmp 12) = S s := f2
      refine good_of fun K hK => ?_
      go_simp; refine (R.out _ (up_trans HW.out hR.of_drew.to_below)).mono ?_; rintro e wc ⟨u, rfl, ho, hb⟩; exact ⟨_, rfl, hK _ _ ((RS.refl _ _).below hb) trivial (RdL.of_own (f := strC) (bs := rs) ho)⟩
    · intro k' w' ρ hk' hR hM hF
      replace hk' : k' < 12 := hk'
      obtain ⟨f0, f1, f2, -⟩ := hF
      replace f0 : ρ (.func _) = .func (.func _) #[] #[] := f0
      replace f1 : ρ (.tmp 8) = S q0 := f1
      refine good_of fun K hK => ?_
      have F1 := f1; obtain ⟨vv, hvv⟩ : ∃ z, z = ρ (.tmp 13) := ⟨_, rfl⟩; replace f2 : RdL w' 1 strC (ρ (.tmp 13)) rs := f2; rw [← hvv] at f2; have hvv2 : ρ (.tmp 13) = vv := hvv.symm; obtain ⟨RA, RC, rfl, -, -⟩ := f2.form; have HU := Lib.hid f2; clear f2 hvv; go_simp; refine (P.out _ _ HU.out).mono ?_; rintro e wc ⟨rfl, hb⟩; exact ⟨_, rfl, hK _ _ ((RS.refl _ _).below hb) trivial rfl⟩
    · intro k' w' ρ hk' hR hM hF
      replace hk' : k' < 12 := hk'
      obtain ⟨f0, -⟩ := hF
      replace f0 : ρ (.tmp 14) = .tuple #[S s, .int .i64 (rs.length : Nat)] := f0
      refine good_of fun K hK => ?_
      go_simp
      exact hK _ _ (RS.refl _ _) (trivial) (rfl)
    · intro k' w' ρ hk' hR hM hF
      replace hk' : k' < 12 := hk'
      obtain ⟨f0, -⟩ := hF
      replace f0 : ρ (.tmp 14) = .tuple #[S s, .int .i64 (rs.length : Nat)] := f0
      refine good_of fun K hK => ?_
      go_simp
      exact hK _ _ (RS.refl _ _) (trivial) (rfl)
    · intro k' w' ρ hk' hR hM hF
      replace hk' : k' < 12 := hk'
      obtain ⟨f0, -⟩ := hF
      replace f0 : ρ (.tmp 15) = S s := f0
      exact ⟨RS.refl _ _, trivial, f0⟩
    · intro k' w' ρ hk' hR hM hF
      replace hk' : k' < 12 := hk'
      obtain ⟨f0, -⟩ := hF
      replace f0 : ρ (.tmp 16) = .int .i64 (rs.length : Nat) := f0
      exact ⟨RS.refl _ _, trivial, f0⟩
  · intro w' hR hM
    rintro _ rfl
    rintro _ rfl
    rintro _ rfl
    rintro _ rfl
    rintro _ rfl
    rintro _ rfl
    rintro _ -
    rintro _ rfl
    rintro _ rfl
    rintro _ rfl
    rintro _ rfl
    rintro _ rfl
  --END
    dsimp only [EndAll, Act.put]
    obtain ⟨w7, rfl⟩ : ∃ z, z = w' := ⟨_, rfl⟩
    have hW := up_trans HW.out (show Below w1.heap.size w1 w7 from hR.of_drew.to_below)
    clear hR hM HW R P F HL
    simp only [List.setIfInBounds_toArray, List.set_cons_zero, List.set_cons_succ]
    go_wp2_with fail
    refine bodyPost_ret (v := .tuple #[S s, .int .i64 (rs.length : Nat)]) (by simp [results, Tryz.results34, go_sem]) rfl ⟨rfl, hW⟩

end Go.Proofs.YtbjlkdenkmbepaaGreatDoor
