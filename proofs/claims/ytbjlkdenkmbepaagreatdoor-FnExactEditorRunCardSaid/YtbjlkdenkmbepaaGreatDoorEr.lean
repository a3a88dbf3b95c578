/- What is proved here: facts and contracts that the walks above this text need. No condition. -/
import Derived.Test.YtbjlkdenkmbepaaGreatDoorSp2
import Derived.Test.YtbjlkdenkmbepaaGreatDoorDoF
import Derived.Test.YtbjlkdenkmbepaaGreatDoorEverL
import Derived.Test.YtbjlkdenkmbepaaGreatDoorHistM
import Derived.Test.YtbjlkdenkmbepaaGreatDoorEd0
namespace Go.Proofs.YtbjlkdenkmbepaaGreatDoor
open Go.RowKit
set_option linter.unusedVariables false

/-- the texts of all states, behind an action. -/
def nxO (e : Es) (o : List (List UInt8)) (e2 : Es) : List (List UInt8) := if e2.ms.length = e.ms.length then o else o ++ [e2.s]
/-- the editor behind actions, its texts, and how many actions were done. -/
def runE : Es → List (List UInt8) → List (List UInt8) → Es × List (List UInt8) × Nat
  | e, o, [] => (e, o, 0)
  | e, o, a :: r => match edDo e o (akOf a) with
    | none => runE e o r
    | some e2 => ((runE e2 (nxO e o e2) r).1, (runE e2 (nxO e o e2) r).2.1, (runE e2 (nxO e o e2) r).2.2 + 1)
theorem edDo_nx {e e2 : Es} {o : List (List UInt8)} {k : Ak} (h : EdIn e o) (he : edDo e o k = some e2) : EdIn e2 (nxO e o e2) := by
  unfold nxO
  rcases edDo_in h he with ⟨h1, h2⟩ | ⟨c, h1, h2, _⟩
  · rw [if_pos (by rw [h2])]
    exact h1
  · rw [if_neg (by rw [h2, List.length_append]; simp)]
    exact h1
theorem runE_in : ∀ (r : List (List UInt8)) {e : Es} {o : List (List UInt8)}, EdIn e o → EdIn (runE e o r).1 (runE e o r).2.1
  | [], _, _, h => h
  | a :: r, e, o, h => by
    rw [runE]
    cases he : edDo e o (akOf a) with
    | none => exact runE_in r h
    | some e2 => exact runE_in r (edDo_nx h he)
theorem runE_le : ∀ (r : List (List UInt8)) (e : Es) (o : List (List UInt8)), (runE e o r).2.2 ≤ r.length
  | [], _, _ => Nat.zero_le _
  | a :: r, e, o => by
    rw [runE]
    cases he : edDo e o (akOf a) with
    | none => have := runE_le r e o; simp only [List.length_cons]; omega
    | some e2 => have := runE_le r e2 (nxO e o e2); simp only [List.length_cons]; omega
theorem runE_app : ∀ (r q : List (List UInt8)) (e : Es) (o : List (List UInt8)), runE e o (r ++ q) = ((runE (runE e o r).1 (runE e o r).2.1 q).1, (runE (runE e o r).1 (runE e o r).2.1 q).2.1, (runE e o r).2.2 + (runE (runE e o r).1 (runE e o r).2.1 q).2.2)
  | [], q, e, o => by simp [runE]
  | a :: r, q, e, o => by
    rw [List.cons_append, runE, runE]
    cases he : edDo e o (akOf a) with
    | none => exact runE_app r q e o
    | some e2 =>
      have h := runE_app r q e2 (nxO e o e2)
      simp only
      rw [h]
      simp only [Prod.mk.injEq, true_and]
      omega
/-- the loop's state: k actions are behind, n of them were done. -/
def RunAt (X : Es) (N : Nat) (rs : List (List UInt8)) (k : Nat) (e : Es) (n : Nat) : Prop := ∃ o, EdIn e o ∧ X = (runE e o (rs.drop k)).1 ∧ N = n + (runE e o (rs.drop k)).2.2
theorem RunAt.start {e : Es} {o : List (List UInt8)} (h : EdIn e o) (rs : List (List UInt8)) : RunAt (runE e o rs).1 (runE e o rs).2.2 rs 0 e 0 := ⟨o, h, by rw [List.drop_zero], by rw [List.drop_zero, Nat.zero_add]⟩
theorem RunAt.step {X e : Es} {N k n : Nat} {rs : List (List UInt8)} (h : RunAt X N rs k e n) (hk : k < rs.length) :
    ∃ o, EdIn e o ∧ RunAt X N rs (k + 1) ((edDo e o (akOf rs[k])).getD e) (n + (edDo e o (akOf rs[k])).isSome.toNat) := by
  obtain ⟨o, h1, h2, h3⟩ := h
  rw [List.drop_eq_getElem_cons hk, runE] at h2 h3
  refine ⟨o, h1, ?_⟩
  cases he : edDo e o (akOf rs[k]) with
  | none => rw [he] at h2 h3; exact ⟨o, h1, h2, h3⟩
  | some e2 =>
    rw [he] at h2 h3
    refine ⟨nxO e o e2, edDo_nx h1 he, h2, ?_⟩
    rw [h3]
    show n + (_ + 1) = n + 1 + _
    rw [Nat.add_assoc, Nat.add_comm 1]
    rfl
theorem RunAt.last {X e : Es} {N n : Nat} {rs : List (List UInt8)} (h : RunAt X N rs rs.length e n) : X = e ∧ N = n := by
  obtain ⟨o, h1, h2, h3⟩ := h
  rw [List.drop_length] at h2 h3
  exact ⟨h2, h3⟩
theorem RunAt.in_ {X e : Es} {N k n : Nat} {rs : List (List UInt8)} (h : RunAt X N rs k e n) : ∃ o, EdIn e o := by
  obtain ⟨o, h1, _⟩ := h
  exact ⟨o, h1⟩
end Go.Proofs.YtbjlkdenkmbepaaGreatDoor

namespace Go.Proofs.YtbjlkdenkmbepaaGreatDoor
open Go.RowKit
set_option linter.unusedVariables false

/-- what EditorRun gives: an editor whose history is the call's own, and a number. -/
def ErPost (X : Es) (n : Int) (w : World) (en : Ending) (w' : World) : Prop := ∃ u, en = .returned (.tuple #[edW X u, .int .i64 n]) ∧ OwnM w' w.heap.size u X.ms ∧ Below w.heap.size w w'
def e0 : Es := ⟨[], 0, [], [], 0⟩
set_option maxRecDepth 100000 in
set_option maxHeartbeats 1000000 in
theorem implEditorRun_no (v lv : Value) (e : Es) (rs : List (List UInt8)) (w : World) (h : RdM w v e.ms) (hn : e.ms.length ≤ 1048576) (hs : e.s.length ≤ maxLen) (hc : e.cl.length ≤ maxLen) (hl : RdL w 1 strC lv rs) (hg : ¬ (EdOk e.ms e.pa e.s e.x e.cl ∧ rs.length ≤ 120)) :
    Calls Tryz.prog 13 #[edW e v, lv] w (ErPost e0 (-1) w) := by
  obtain ⟨s, x, cl, ms, pa⟩ := e
  simp only at *
  obtain ⟨A, c, rfl, _, _⟩ := h.1.form
  obtain ⟨LA, LC, rfl, _, _⟩ := hl.form
  have T := Lib.hid (fun (w' : World) (hb : Below w.heap.size w w') => implEditorValid_any (.slice A ms.length c) ms pa s x cl w' (h.up hb) hn hs hc)
  have HP := Lib.hid hg
  clear h hg hl
  unfold ErPost edW e0
  unfold edAgg at T ⊢
  simp only
  go_enter Tryz.func13, Tryz.ntmps13
  go_wp2_with fail
  refine (T.out _ (by exact bBel)).mono ?_
  rintro en w1 ⟨ok, rfl, hh, hb⟩
  have hk : ok = false ∨ ¬ rs.length ≤ 120 := by
    rcases ok with _ | _
    · exact .inl rfl
    · exact .inr fun h => HP.out ⟨hh.1 rfl, h⟩
  have yc : ∀ o, w1.cell? ⟨w.heap.size + 1, o, none⟩ = #[S [], .int .i64 0, S [], .slice none 0 0, .int .i64 0][o]? := (fun o => (hb.cell (p := ⟨w.heap.size + 1, o, none⟩) (by simp <;> omega)).trans (by simp [go_sem])); have yf : ∀ o, w1.frozen? ⟨w.heap.size + 1, o, none⟩ = false := (fun o => (hb.frozen (p := ⟨w.heap.size + 1, o, none⟩) (by simp <;> omega)).trans (by simp [go_sem])); have yz : w.heap.size + 1 < w1.heap.size := (by have := hb.size; (try simp at this); omega); have yy := yz
  have hW : Below w.heap.size w w1 := by exact bBel
  clear hb hh T HP
  rcases ok with _ | _
  · clear hk
    go_wp2_with fail
    refine bodyPost_ret (v := .tuple #[.agg #[S [], .int .i64 0, S [], .slice none 0 0, .int .i64 0], .int .i64 (-1)]) (by simp [results, Tryz.results13, go_sem, yc]) rfl ⟨.slice none 0 0, rfl, World.ownsRow_nil _ _ _ _, ?_⟩
    have hQ := hW
    (repeat refine up_set ?_ _ _ (by first | exact Nat.le_refl _ | (simp; done) | (simp; omega) | omega))
    exact hQ
  · have i1 : (120 : Int) < (rs.length : Int) := by
      rcases hk with h | h
      · cases h
      · omega
    clear hk
    go_wp2_with fail
    refine bodyPost_ret (v := .tuple #[.agg #[S [], .int .i64 0, S [], .slice none 0 0, .int .i64 0], .int .i64 (-1)]) (by simp [results, Tryz.results13, go_sem, yc]) rfl ⟨.slice none 0 0, rfl, World.ownsRow_nil _ _ _ _, ?_⟩
    have hQ := hW
    (repeat refine up_set ?_ _ _ (by first | exact Nat.le_refl _ | (simp; done) | (simp; omega) | omega))
    exact hQ

set_option maxRecDepth 100000 in
set_option maxHeartbeats 2000000 in
theorem implEditorRun_yes (v lv : Value) (e : Es) (o rs : List (List UInt8)) (w : World) (h : RdM w v e.ms) (hin : EdIn e o) (hl : RdL w 1 strC lv rs) (hr : ∀ r ∈ rs, r.length ≤ 1048576) (h120 : rs.length ≤ 120) (hL : LW w) :
    Calls Tryz.prog 13 #[edW e v, lv] w (ErPost (runE e o rs).1 (runE e o rs).2.2 w) := by
  have hst := RunAt.start hin rs
  obtain ⟨X, hX⟩ : ∃ X, X = (runE e o rs).1 := ⟨_, rfl⟩
  obtain ⟨N, hN⟩ : ∃ N, N = (runE e o rs).2.2 := ⟨_, rfl⟩
  rw [← hX, ← hN] at hst ⊢
  clear hX hN
  have hok := hin.ok
  have hn : e.ms.length ≤ 1048576 := by have := hin.g.n30; omega
  have hs : e.s.length ≤ maxLen := by have := tv_len hin.g.t; unfold maxLen; omega
  have hc : e.cl.length ≤ maxLen := by have := tv_len hin.c; unfold maxLen; omega
  have HST := Lib.hid hst
  have HRS := Lib.hid hr
  have HV := Lib.hid hl
  have HL := Lib.hid hL
  have HP := Lib.hid h.2
  clear hst hr hL hin
  obtain ⟨s, x, cl, ms, pa⟩ := e
  simp only at *
  obtain ⟨A, c, rfl, _, _⟩ := h.1.form
  obtain ⟨LA, LC, rfl, _, _⟩ := hl.form
  have T := Lib.hid (fun (w' : World) (hb : Below w.heap.size w w') => implEditorValid_any (.slice A ms.length c) ms pa s x cl w' (h.up hb) hn hs hc)
  have C := Lib.hid (fun (w' : World) (hb : Below w.heap.size w w') => edClone_any (.slice A ms.length c) ms pa s x cl w' (h.up hb) hn)
  have HO := Lib.hid hok
  clear h hok hl
  unfold ErPost edW
  unfold EdNew at C
  unfold edAgg at T C ⊢
  simp only
  have i1 : ¬ (120 : Int) < (rs.length : Int) := by omega
  go_enter Tryz.func13, Tryz.ntmps13
  go_wp2_with fail
  refine (T.out _ (by exact bBel)).mono ?_
  rintro en w1 ⟨ok, rfl, hh, hb⟩
  obtain rfl : ok = true := hh.2 HO.out
  have xc : ∀ o, w1.cell? ⟨w.heap.size, o, none⟩ = #[S s, .int .i64 x, S cl, .slice A ms.length c, .int .i64 pa][o]? := (fun o => (hb.cell (p := ⟨w.heap.size, o, none⟩) (by simp <;> omega)).trans (by simp [go_sem])); have xf : ∀ o, w1.frozen? ⟨w.heap.size, o, none⟩ = false := (fun o => (hb.frozen (p := ⟨w.heap.size, o, none⟩) (by simp <;> omega)).trans (by simp [go_sem])); have xz : w.heap.size < w1.heap.size := (by have := hb.size; (try simp at this); omega); have xy := xz
  have yc : ∀ o, w1.cell? ⟨w.heap.size + 1, o, none⟩ = #[S [], .int .i64 0, S [], .slice none 0 0, .int .i64 0][o]? := (fun o => (hb.cell (p := ⟨w.heap.size + 1, o, none⟩) (by simp <;> omega)).trans (by simp [go_sem])); have yf : ∀ o, w1.frozen? ⟨w.heap.size + 1, o, none⟩ = false := (fun o => (hb.frozen (p := ⟨w.heap.size + 1, o, none⟩) (by simp <;> omega)).trans (by simp [go_sem])); have yz : w.heap.size + 1 < w1.heap.size := (by have := hb.size; (try simp at this); omega); have yy := yz
  have hW : Below w.heap.size w w1 := by exact bBel
  clear hb hh T HO
  go_wp2_with fail
  refine (C.out _ (by exact bBel)).mono ?_
  rintro en w2 ⟨v2, rfl, ho, hb⟩
  have hB : Below w1.heap.size w1 w2 := (by exact bBel); replace yc := up_c hB yz yc; replace yf := up_f hB yz yf; replace yz := Nat.lt_of_lt_of_le yz hB.size; have sw2 := hB.size; replace hW := up_trans hW hB; clear hB
  obtain ⟨A2, c2, rfl, -, -⟩ := (RdL.of_own (f := moC) (bs := ms) ho).form
  have HO2 := Lib.hid (own_base ho (show w.heap.size + 2 ≤ _ by omega))
  clear hb ho xc xf xz xy C
  go_upto_region 4 with (fail)
  obtain ⟨w3, hw⟩ : ∃ z, z = w2.alloc (.cells #[S s, .int .i64 x, S cl, .slice A2 ms.length c2, .int .i64 pa] 27) := ⟨_, rfl⟩
  rw [← hw]
  have hb : Below w2.heap.size w2 w3 := by rw [hw]; exact up_alloc (Below.refl _ _) _
  have XI := Lib.hid (show Is w3 w2.heap.size #[S s, .int .i64 x, S cl, .slice A2 ms.length c2, .int .i64 pa] by rw [hw]; exact new_is w2 _ _)
  have xz : w2.heap.size < w3.heap.size := by rw [hw]; simp
  have HO3 := Lib.hid (own_up HO2.out hb)
  have hB : Below w2.heap.size w2 w3 := (by exact bBel); replace yc := up_c hB yz yc; replace yf := up_f hB yz yf; replace yz := Nat.lt_of_lt_of_le yz hB.size; have sw3 := hB.size; replace hW := up_trans hW hB; clear hB
  obtain ⟨d, hd⟩ : ∃ d, d = w2.heap.size := ⟨_, rfl⟩
  have hwd : w.heap.size + 2 ≤ d := by omega
  rw [← hd] at xz XI ⊢
  have YI := Lib.hid (show Is w3 (w.heap.size + 1) _ from ⟨yc, yf⟩)
  have HR3 := Lib.hid (show RdM w3 (.slice A2 ms.length c2) ms from ⟨RdL.of_own HO3.out, HP.out⟩)
  have HW := Lib.hid hW
  clear hb hw HO2 hd yc yf hW HP
  go_wp2_with fail
  go_loopw [7, 9, 10, 11, 25] (fun n v9 v10 v11 i wr => ∃ (k m : Nat) (en : Es) (u x9 x10 x11 : Value), v9 = x9 ∧ v10 = x10 ∧ v11 = x11 ∧ k ≤ rs.length ∧ i = .int .i64 k ∧ n = .int .i64 m ∧ m ≤ k ∧ Hid (Is wr d #[S en.s, .int .i64 en.x, S en.cl, u, .int .i64 en.pa]) ∧ Hid (OwnM wr (w.heap.size + 2) u en.ms) ∧ Hid (RdM wr u en.ms) ∧ Hid (RunAt X N rs k en m) ∧ Hid (Is wr (w.heap.size + 1) #[S [], .int .i64 0, S [], .slice none 0 0, .int .i64 0]) ∧ Hid (Below w.heap.size w wr) ∧ d < wr.heap.size) (fun _ _ _ _ i _ => rs.length - (intOf i).toNat)
  case atStart => exact ⟨0, 0, ⟨s, x, cl, ms, pa⟩, _, _, _, _, rfl, rfl, rfl, Nat.zero_le _, rfl, rfl, Nat.le_refl _, XI, HO3, HR3, HST, YI, HW, xz⟩
  case round =>
    obtain ⟨k, m, en, u, x9, x10, x11, rfl, rfl, rfl, hk, rfl, rfl, hm, XIr, HOr, HRr, HSr, YIr, HWr, xzr⟩ := hrel
    clear XI HO3 HR3 HST YI HW xz yz yy
    by_cases hlt : k < rs.length
    · have j1 : (0 : Int) ≤ (k : Int) := by omega
      have j2 : (k : Int) < (rs.length : Int) := by omega
      have j3 : (m : Int) ≤ 120 := by omega
      obtain ⟨b, q, rfl, hbz, hcl⟩ := (RdL.up HV.out HWr.out).cells strC_len hlt
      have c0 := hcl 0 _ rfl
      simp only [Nat.mul_one, Nat.add_zero] at c0
      obtain ⟨o', hin', hs'⟩ := HSr.out.step hlt
      have hrl := HRS.out _ (List.getElem_mem hlt)
      have U := Lib.hid (implEditorDo_any u en o' rs[k] wr HRr.out hin' hrl (HL.out.up HWr.out))
      obtain ⟨e2, he2⟩ : ∃ z, z = (edDo en o' (akOf rs[k])).getD en := ⟨_, rfl⟩
      obtain ⟨ok, hok⟩ : ∃ z, z = (edDo en o' (akOf rs[k])).isSome := ⟨_, rfl⟩
      rw [← he2, ← hok] at U hs'
      have HS2 := Lib.hid hs'
      clear he2 hok hin' hs' hcl hrl
      generalize rs[k] = r at c0 U
      obtain ⟨s1, x1, cl1, ms1, pa1⟩ := en
      obtain ⟨s2, x2, cl2, ms2, pa2⟩ := e2
      simp only at XIr HOr HRr
      obtain ⟨A1, c1, rfl, -, -⟩ := HRr.out.1.form
      unfold EdGot EdDone edV edAgg at U
      simp only at U
      have xc := XIr.out.1
      have xf := XIr.out.2
      clear HRr HOr
      go_wp2_with fail
      refine U.out.mono ?_
      rintro en w6 ⟨u6, rfl, ho6, hb⟩
      obtain ⟨A6, c6, rfl, -, -⟩ := (RdL.of_own (f := moC) (bs := ms2) ho6).form
      have hp6 := HS2.out.in_
      have HR6 := Lib.hid (show RdM w6 (.slice A6 ms2.length c6) ms2 from by obtain ⟨o6, h6⟩ := hp6; exact rdM_good ho6 h6.g)
      have HO6 := Lib.hid ho6
      replace XIr := Lib.hid (XIr.out.up xzr hb)
      replace YIr := Lib.hid (YIr.out.up (by omega) hb)
      have xz6 := Nat.lt_of_lt_of_le xzr hb.size
      replace HWr := Lib.hid (up_trans HWr.out hb)
      clear hb U ho6 xc xf hp6 c0
      go_upto_region 9 with (fail)
      obtain ⟨W7, hw⟩ : ∃ z, z = w6.alloc (.cells #[S s2, .int .i64 x2, S cl2, .slice A6 ms2.length c6, .int .i64 pa2] 27) := ⟨_, rfl⟩
      rw [← hw]
      have hb7 : Below w6.heap.size w6 W7 := by rw [hw]; exact up_alloc (Below.refl _ _) _
      have zI : Is W7 w6.heap.size #[S s2, .int .i64 x2, S cl2, .slice A6 ms2.length c6, .int .i64 pa2] := by rw [hw]; exact new_is w6 _ _
      have zz : w6.heap.size < W7.heap.size := by rw [hw]; simp
      have xI7 := XIr.out.up xz6 hb7
      have xz7 := Nat.lt_of_lt_of_le xz6 hb7.size
      have zc := zI.1
      have xc := xI7.1
      have xf := xI7.2
      have hne1 : ¬ d = w6.heap.size := by omega
      have hne2 : ¬ w6.heap.size = d := by omega
      have ZI := Lib.hid (is_all5 xI7 (S s2) (.int .i64 x2) (S cl2) (.slice A6 ms2.length c6) (.int .i64 pa2))
      have ZY := Lib.hid (is_far5 (YIr.out.up (by omega) hb7) (show w.heap.size + 1 ≠ d by omega) (S s2) (.int .i64 x2) (S cl2) (.slice A6 ms2.length c6) (.int .i64 pa2))
      have ZO := Lib.hid (own_all5 (own_up HO6.out hb7) xzr (S s2) (.int .i64 x2) (S cl2) (.slice A6 ms2.length c6) (.int .i64 pa2))
      have ZW := Lib.hid (show Below w.heap.size w (((((W7.setCell ⟨d, 0, none⟩ (S s2)).setCell ⟨d, 1, none⟩ (.int .i64 x2)).setCell ⟨d, 2, none⟩ (S cl2)).setCell ⟨d, 3, none⟩ (.slice A6 ms2.length c6)).setCell ⟨d, 4, none⟩ (.int .i64 pa2)) by
        have hQ := up_trans HWr.out hb7
        (repeat refine up_set ?_ _ _ (show w.heap.size ≤ d by omega))
        exact hQ)
      have hz : d < (((((W7.setCell ⟨d, 0, none⟩ (S s2)).setCell ⟨d, 1, none⟩ (.int .i64 x2)).setCell ⟨d, 2, none⟩ (S cl2)).setCell ⟨d, 3, none⟩ (.slice A6 ms2.length c6)).setCell ⟨d, 4, none⟩ (.int .i64 pa2)).heap.size := by simpa [World.setCell] using xz7
      have ZR := Lib.hid (show RdM _ (.slice A6 ms2.length c6) ms2 from ⟨RdL.of_own ZO.out, HR6.out.2⟩)
      have ZO2 := Lib.hid (own_base ZO.out (show w.heap.size + 2 ≤ _ by omega))
      clear hw hb7 zI xI7 HO6 HR6 HWr XIr YIr ZO zz
      rcases ok with _ | _
      · go_wp2_with fail
        go_roundw
        case rel => exact ⟨k + 1, m, ⟨s2, x2, cl2, ms2, pa2⟩, _, _, _, _, rfl, rfl, rfl, by omega, by go_num, rfl, by omega, ZI, ZO2, ZR, HS2, ZY, ZW, hz⟩
        case measure => simp [intOf]; omega
      · go_wp2_with fail
        go_roundw
        case rel => exact ⟨k + 1, m + 1, ⟨s2, x2, cl2, ms2, pa2⟩, _, _, _, _, rfl, rfl, rfl, by omega, by go_num, by go_num, by omega, ZI, ZO2, ZR, HS2, ZY, ZW, hz⟩
        case measure => simp [intOf]; omega
    · obtain rfl : k = rs.length := by omega
      obtain ⟨hX, hN⟩ := HSr.out.last
      obtain ⟨s1, x1, cl1, ms1, pa1⟩ := en
      subst hX hN
      simp only at XIr HOr HRr ⊢
      obtain ⟨A1, c1, rfl, -, -⟩ := HRr.out.1.form
      have xc := XIr.out.1
      have yc := YIr.out.1
      have yf := YIr.out.2
      have yz : w.heap.size + 1 < wr.heap.size := by omega
      have hne1 : ¬ d = w.heap.size + 1 := by omega
      have hne2 : ¬ w.heap.size + 1 = d := by omega
      clear HRr HSr XIr YIr
      go_wp2_with fail
      refine bodyPost_ret (v := .tuple #[.agg #[S s1, .int .i64 x1, S cl1, .slice A1 ms1.length c1, .int .i64 pa1], .int .i64 N]) (by simp [results, Tryz.results13, go_sem, yc]) rfl ⟨_, rfl, ?_, by (have hQ := HWr.out; (repeat refine up_set ?_ _ _ (by first | exact Nat.le_refl _ | (simp; done) | (simp; omega) | omega)); exact hQ)⟩
      exact own_base (own_all5 HOr.out (by omega) _ _ _ _ _) (by omega)

end Go.Proofs.YtbjlkdenkmbepaaGreatDoor

namespace Go.Proofs.YtbjlkdenkmbepaaGreatDoor
open Go.RowKit
set_option linter.unusedVariables false

/-- a kind of box: its type, the row's element type and size, the row's content, and the box's cells when the row is v. -/
structure Bxp where
  bt : TypeId
  et : TypeId
  sz : Nat
  n : Nat
  xs : List Value
  bx : Value → Array Value
  k : Nat
  ne : et ≠ bt
  hk : ∀ v, (bx v).size = k

/-- block i is a box of the kind, and holds what is to be stored. -/
def BoxX (X : Bxp) (base : Nat) (w : World) (i : Nat) : Prop :=
  (∃ A, w.heap[i]? = some (.cells A X.bt (0, 0))) ∧ ∃ v, Is w i (X.bx v) ∧ Own w base X.et X.sz v X.n X.xs
/-- the world goes on: a block that was there is as it was, or it is a new box of the kind, that holds what is to be stored now. -/
structure RX (X : Bxp) (B base : Nat) (a b : World) : Prop where
  os : b.os = a.os
  tape : b.tape = a.tape
  output : b.output = a.output
  size : a.heap.size ≤ b.heap.size
  block : ∀ i, i < a.heap.size → b.heap[i]? = a.heap[i]? ∨ (B ≤ i ∧ (∃ A, a.heap[i]? = some (.cells A X.bt (0, 0))) ∧ BoxX X base b i)
section
variable {X : Bxp} {B base : Nat} {a b c : World}
theorem RX.own {bs sz n : Nat} {et : TypeId} {v : Value} {xs : List Value} (h : RX X B base a b) (hne : et ≠ X.bt) (ho : Own a bs et sz v n xs) : Own b bs et sz v n xs := by
  refine ⟨ho.1, ?_⟩
  rcases ho.2 with hn | ⟨g, cap, cur, rfl, hbg, hgg, rest⟩
  · exact .inl hn
  · refine .inr ⟨g, cap, cur, rfl, hbg, ?_, rest⟩
    rcases h.block g (Array.getElem?_eq_some_iff.1 hgg).1 with h1 | ⟨_, ⟨A, h2⟩, _⟩
    · rw [h1]; exact hgg
    · rw [hgg] at h2
      injection h2 with h2
      injection h2 with _ h3 _
      exact absurd h3 hne
theorem RX.box {bs : Nat} (h : RX X B base a b) {i : Nat} (hi : i < a.heap.size) (hk : BoxX X bs a i) : BoxX X bs b i ∨ BoxX X base b i := by
  obtain ⟨⟨A, hA⟩, v, hv, ho⟩ := hk
  rcases h.block i hi with h1 | ⟨_, _, h2⟩
  · exact .inl ⟨⟨A, h1.trans hA⟩, v, hv.of_block h1, h.own X.ne ho⟩
  · exact .inr h2
theorem RX.refl (X : Bxp) (B base : Nat) (a : World) : RX X B base a a := ⟨rfl, rfl, rfl, Nat.le_refl _, fun _ _ => .inl rfl⟩
theorem RX.trans (h : RX X B base a b) (k : RX X B base b c) : RX X B base a c := ⟨k.os.trans h.os, k.tape.trans h.tape, k.output.trans h.output, Nat.le_trans h.size k.size, fun i hi => by
  have hib := Nat.lt_of_lt_of_le hi h.size
  rcases h.block i hi with h1 | ⟨h1, h2, h3⟩
  · rcases k.block i hib with k1 | ⟨k1, ⟨A, k2⟩, k3⟩
    · exact .inl (k1.trans h1)
    · exact .inr ⟨k1, ⟨A, h1.symm.trans k2⟩, k3⟩
  · rcases k.box hib h3 with h4 | h4 <;> exact .inr ⟨h1, h2, h4⟩⟩
theorem RX.below (h : RX X B base a b) (k : Below b.heap.size b c) : RX X B base a c := h.trans ⟨k.os, k.tape, k.output, k.size, fun i hi => .inl (k.block i hi)⟩
theorem RX.of_below (k : Below b.heap.size b c) : RX X B base b c := (RX.refl _ _ _ _).below k
theorem RX.of_drew (h : RX X B base a.drew b) : RX X B base a b := ⟨h.os, h.tape, h.output, h.size, h.block⟩
theorem RX.to_below (h : RX X a.heap.size base a b) : Below a.heap.size a b := ⟨h.os, h.tape, h.output, h.size, fun i hi => by
  rcases h.block i hi with h1 | ⟨h1, _⟩
  · exact h1
  · omega⟩
theorem RX.same (h : RX X B base a b) {i : Nat} (hi : i < a.heap.size) (hB : i < B) : b.heap[i]? = a.heap[i]? := by
  rcases h.block i hi with h1 | ⟨h1, _⟩
  · exact h1
  · omega
theorem RX.cell (h : RX X B base a b) {i : Nat} (hi : i < a.heap.size) (hB : i < B) (o : Nat) : b.cell? ⟨i, o, none⟩ = a.cell? ⟨i, o, none⟩ := World.cell?_of_block (a := ⟨i, o, none⟩) (h.same hi hB)

theorem own_setCells {w : World} {bs size n b : Nat} {e : TypeId} {v : Value} {xs : List Value} (hp : v.ownBlock ≠ some b) : ∀ (l : List Value) (o : Nat) (w : World), Own w bs e size v n xs → Own (w.setCells b o l) bs e size v n xs
  | [], _, _, h => h
  | u :: r, o, w, h => by
    rw [World.setCells]
    refine own_setCells (w := w) hp r (o + 1) _ ⟨h.1, ?_⟩
    rcases h.2 with hn | ⟨g, cap, cur, rfl, hbg, hgg, rest⟩
    · exact .inl hn
    · refine .inr ⟨g, cap, cur, rfl, hbg, ?_, rest⟩
      rw [Below.heap_setCell w ⟨b, o, none⟩ u g (fun e => hp (by rw [e]; rfl))]
      exact hgg
theorem tag_setCells {t : TypeId} {b : Nat} : ∀ (l : List Value) (o : Nat) (w : World), (∃ A, w.heap[b]? = some (.cells A t (0, 0))) → ∃ A, (w.setCells b o l).heap[b]? = some (.cells A t (0, 0))
  | [], _, _, h => h
  | u :: r, o, w, ⟨A, h⟩ => by
    rw [World.setCells]
    exact tag_setCells r (o + 1) _ ⟨_, heap_setCell_same w b o A t u h⟩
theorem ownBlock_ne_tag {w : World} {bs sz n i : Nat} {et bt : TypeId} {u : Value} {xs : List Value} (hne : et ≠ bt) (ht : ∃ A, w.heap[i]? = some (.cells A bt (0, 0))) (ho : Own w bs et sz u n xs) : u.ownBlock ≠ some i := fun he => by
  obtain ⟨A, hA⟩ := ht
  rcases ho.2 with ⟨rfl, _⟩ | ⟨g, cap, cur, rfl, _, hgg, _⟩
  · cases he
  · injection he with he
    simp only at he
    subst he
    rw [hA] at hgg
    injection hgg with hgg
    injection hgg with _ h3 _
    exact absurd h3.symm hne
/-- all cells of a box of the kind are written. -/
theorem xput_mk {w : World} {i : Nat} {u : Value} (ht : ∃ A, w.heap[i]? = some (.cells A X.bt (0, 0))) (hI : ∃ A : Array Value, A.size = X.k ∧ Is w i A) (ho : Own w base X.et X.sz u X.n X.xs) (hB : B ≤ i) :
    BoxX X base (putV w i (X.bx u)) i ∧ RX X B base w (putV w i (X.bx u)) := by
  obtain ⟨A, hA, hI⟩ := hI
  have hK : BoxX X base (putV w i (X.bx u)) i := ⟨tag_setCells _ _ _ ht, u, put_is hI (hA.trans (X.hk u).symm), own_setCells (w := w) (ownBlock_ne_tag X.ne ht ho) _ _ _ ho⟩
  obtain ⟨h1, h2, h3⟩ := setCells_rest i (X.bx u).toList 0 w
  refine ⟨hK, h1, h2, h3, Nat.le_of_eq (putV_size w i _).symm, fun j hj => ?_⟩
  by_cases e : j = i
  · subst e
    exact .inr ⟨hB, ht, hK⟩
  · exact .inl (setCells_other i e _ _ _)
theorem xbox_mk (X : Bxp) (w : World) (U : Array Value) (hU : U.size = X.k) : (∃ A, (w.alloc (.cells U X.bt)).heap[w.heap.size]? = some (.cells A X.bt (0, 0))) ∧ ∃ A : Array Value, A.size = X.k ∧ Is (w.alloc (.cells U X.bt)) w.heap.size A :=
  ⟨⟨U, heap_alloc_new w _⟩, U, hU, new_is w _ _⟩
end
section
variable (X : Bxp) (B base : Nat)
def xAny : Ty (RX X B base) := ⟨fun _ _ => True, fun _ _ _ _ h => h⟩
def xEq (u : Value) : Ty (RX X B base) := ⟨fun v _ => v = u, fun _ _ _ _ h => h⟩
/-- a value that holds a row of the region's own. -/
def xRow (mk : Value → Value) (et : TypeId) (hne : et ≠ X.bt) (sz n : Nat) (xs : List Value) : Ty (RX X B base) := ⟨fun v w => ∃ u, v = mk u ∧ Own w base et sz u n xs, fun _ _ _ hR ⟨u, hv, h⟩ => ⟨u, hv, hR.own hne h⟩⟩
/-- a pointer to a new box of the kind. -/
def xBox : Ty (RX X B base) := ⟨fun v w => ∃ i, v = .pointer (some ⟨i, 0, none⟩) ∧ B ≤ i ∧ i < w.heap.size ∧ (∃ A, w.heap[i]? = some (.cells A X.bt (0, 0))) ∧ ∃ A : Array Value, A.size = X.k ∧ Is w i A, fun v w w' hR ⟨i, hv, h1, h2, h3, h4⟩ =>
  ⟨i, hv, h1, Nat.lt_of_lt_of_le h2 hR.size, by
    rcases hR.block i h2 with h | ⟨_, _, h, ⟨v, hv, _⟩⟩
    · obtain ⟨A, h3⟩ := h3
      obtain ⟨A', hA', h4⟩ := h4
      exact ⟨⟨A, h.trans h3⟩, A', hA', h4.of_block h⟩
    · exact ⟨h, _, X.hk v, hv⟩⟩⟩
/-- what is to be stored is stored in the box to which slot t points. -/
def xPut (t : Nat) : Tl (RX X B base) := { xAny X B base with
  lk := some t
  s := fun u w => ∀ i, u = .pointer (some ⟨i, 0, none⟩) → i < w.heap.size ∧ BoxX X base w i
  us := fun u w w' hR h i hu => by
    obtain ⟨h1, h2⟩ := h i hu
    refine ⟨Nat.lt_of_lt_of_le h1 hR.size, ?_⟩
    rcases hR.box h1 h2 with h | h <;> exact h }
end

end Go.Proofs.YtbjlkdenkmbepaaGreatDoor

namespace Go.Proofs.YtbjlkdenkmbepaaGreatDoor
open Go.RowKit
set_option linter.unusedVariables false

def XE (s2 : List UInt8) (x2 : Int) (cl2 : List UInt8) (m2 : List Mo) (pa2 : Int) : Bxp := ⟨27, 96, 7, m2.length, m2.flatMap moC, fun v => #[S s2, .int .i64 x2, S cl2, v, .int .i64 pa2], 5, by decide, fun _ => rfl⟩
theorem xe_ne (s2 : List UInt8) (x2 : Int) (cl2 : List UInt8) (m2 : List Mo) (pa2 : Int) : 96 ≠ (XE s2 x2 cl2 m2 pa2).bt := show (96 : TypeId) ≠ 27 by decide
theorem is_five {w : World} {b : Nat} {A : Array Value} (h : Is w b A) (hs : A.size = 5) : ∃ a0 a1 a2 a3 a4, w.cell? ⟨b, 0, none⟩ = some a0 ∧ w.cell? ⟨b, 1, none⟩ = some a1 ∧ w.cell? ⟨b, 2, none⟩ = some a2 ∧ w.cell? ⟨b, 3, none⟩ = some a3 ∧ w.cell? ⟨b, 4, none⟩ = some a4 := by
  obtain ⟨l⟩ := A
  match l, hs with
  | [a, b, c, d, e], _ => exact ⟨a, b, c, d, e, h.1 0, h.1 1, h.1 2, h.1 3, h.1 4⟩

end Go.Proofs.YtbjlkdenkmbepaaGreatDoor

namespace Go.Proofs.YtbjlkdenkmbepaaGreatDoor
open Go.RowKit
set_option linter.unusedVariables false

set_option maxRecDepth 100000 in
set_option maxHeartbeats 1000000 in
theorem specEditorRun_no (v lv : Value) (e : Es) (rs : List (List UInt8)) (w : World) (h : RdM w v e.ms) (hn : e.ms.length ≤ 1048576) (hs : e.s.length ≤ maxLen) (hc : e.cl.length ≤ maxLen) (hl : RdL w 1 strC lv rs) (hg : ¬ (EdOk e.ms e.pa e.s e.x e.cl ∧ rs.length ≤ 120)) :
    Calls Tryz.prog 14 #[edW e v, lv] w (ErPost e0 (-1) w) := by
  obtain ⟨s, x, cl, ms, pa⟩ := e
  simp only at *
  obtain ⟨A, kk, rfl, _, _⟩ := h.1.form
  obtain ⟨LA, LC, rfl, _, _⟩ := hl.form
  have OW := Lib.hid (fun (w' : World) (hb : Below w.heap.size w w') => l1OwnEditor_any (.slice A ms.length kk) ms pa s x cl w' (h.up hb) hn)
  have EV := Lib.hid (fun (u : Value) (w' : World) (h' : RdM w' u ms) => specEditorValid_any u ms pa s x cl w' h' hn hs hc)
  have HP := Lib.hid h.2
  have HG := Lib.hid hg
  unfold EdOwn at OW
  unfold EvPost at EV
  unfold edAgg at OW EV
  unfold ErPost edW e0
  unfold edAgg
  simp only
  clear h hg hl
  go_enter Tryz.func14, Tryz.ntmps14
  go_wp2_with fail
  refine (OW.out _ (by exact bBel)).mono ?_
  rintro en w1 ⟨u, rfl, ho, hb⟩
  have xc : ∀ o, w1.cell? ⟨w.heap.size, o, none⟩ = #[S s, .int .i64 x, S cl, .slice A ms.length kk, .int .i64 pa][o]? := (fun o => (hb.cell (p := ⟨w.heap.size, o, none⟩) (by simp <;> omega)).trans (by simp [go_sem])); have xf : ∀ o, w1.frozen? ⟨w.heap.size, o, none⟩ = false := (fun o => (hb.frozen (p := ⟨w.heap.size, o, none⟩) (by simp <;> omega)).trans (by simp [go_sem])); have xz : w.heap.size < w1.heap.size := (by have := hb.size; (try simp at this); omega); have xy := xz
  have zc : ∀ o, w1.cell? ⟨w.heap.size + 1, o, none⟩ = #[S [], .int .i64 0, S [], .slice none 0 0, .int .i64 0][o]? := (fun o => (hb.cell (p := ⟨w.heap.size + 1, o, none⟩) (by simp <;> omega)).trans (by simp [go_sem])); have zf : ∀ o, w1.frozen? ⟨w.heap.size + 1, o, none⟩ = false := (fun o => (hb.frozen (p := ⟨w.heap.size + 1, o, none⟩) (by simp <;> omega)).trans (by simp [go_sem])); have zz : w.heap.size + 1 < w1.heap.size := (by have := hb.size; (try simp at this); omega); have zy := zz
  have hW : Below w.heap.size w w1 := by exact bBel
  have HO1 := Lib.hid (own_base ho (show w.heap.size + 2 ≤ _ by simp))
  obtain ⟨UA, UC, rfl, -, -⟩ := (RdL.of_own (f := moC) (bs := ms) ho).form
  have HW := Lib.hid hW
  clear hb ho OW hW xy zy
  go_upto_region 2 with (fail)
  obtain ⟨W2, hw⟩ : ∃ q, q = ((((w1.setCell ⟨w.heap.size, 0, none⟩ (S s)).setCell ⟨w.heap.size, 1, none⟩ (.int .i64 x)).setCell ⟨w.heap.size, 2, none⟩ (S cl)).setCell ⟨w.heap.size, 3, none⟩ (.slice UA ms.length UC)).setCell ⟨w.heap.size, 4, none⟩ (.int .i64 pa) := ⟨_, rfl⟩
  rw [← hw]
  have xI : Is W2 w.heap.size #[S s, .int .i64 x, S cl, .slice UA ms.length UC, .int .i64 pa] := by rw [hw]; exact is_all5 ⟨xc, xf⟩ _ _ _ _ _
  have zI : Is W2 (w.heap.size + 1) #[S [], .int .i64 0, S [], .slice none 0 0, .int .i64 0] := by rw [hw]; exact is_far5 ⟨zc, zf⟩ (by omega) _ _ _ _ _
  have hB2 : Below w.heap.size w1 W2 := by
    rw [hw]
    have hQ := Below.refl w.heap.size w1
    (repeat refine Below.setCell ?_ (by first | exact Nat.le_refl _ | (simp; done) | (simp; omega)) _)
    exact hQ
  have HO2 := Lib.hid (show OwnM W2 (w.heap.size + 2) (.slice UA ms.length UC) ms by rw [hw]; exact own_all5 HO1.out (by omega) _ _ _ _ _)
  have zz2 : w.heap.size + 1 < W2.heap.size := Nat.lt_of_lt_of_le zz hB2.size
  have HW2 := Lib.hid (show Below w.heap.size w W2 from HW.out.trans hB2)
  have xc2 := xI.1
  have HR2 := Lib.hid (show RdM W2 (.slice UA ms.length UC) ms from ⟨RdL.of_own HO2.out, HP.out⟩)
  clear hw hB2 HO1 HW xc xf xz zc zf zz
  go_wp2_with fail
  refine (EV.out _ _ HR2.out).mono ?_
  rintro en w3 ⟨ok, rfl, hh, hb⟩
  have hk : ok = false ∨ ¬ rs.length ≤ 120 := by
    rcases ok with _ | _
    · exact .inl rfl
    · exact .inr fun h => HG.out ⟨hh.1 rfl, h⟩
  replace zI := zI.up zz2 hb
  have HW := Lib.hid (up_trans HW2.out hb)
  have zc := zI.1
  have zf := zI.2
  clear hb EV HO2 HW2 zI xI xc2 zz2 hh HG HR2
  rcases ok with _ | _
  · clear hk
    go_wp2_with fail
    refine bodyPost_ret (v := .tuple #[.agg #[S [], .int .i64 0, S [], .slice none 0 0, .int .i64 0], .int .i64 (-1)]) (by simp [results, Tryz.results14, go_sem, zc]) rfl ⟨.slice none 0 0, rfl, World.ownsRow_nil _ _ _ _, ?_⟩
    have hQ := HW.out
    (repeat refine up_set ?_ _ _ (by first | exact Nat.le_refl _ | (simp; done) | (simp; omega) | omega))
    exact hQ
  · have i1 : (120 : Int) < (rs.length : Int) := by
      rcases hk with h | h
      · cases h
      · omega
    clear hk
    go_wp2_with fail
    refine bodyPost_ret (v := .tuple #[.agg #[S [], .int .i64 0, S [], .slice none 0 0, .int .i64 0], .int .i64 (-1)]) (by simp [results, Tryz.results14, go_sem, zc]) rfl ⟨.slice none 0 0, rfl, World.ownsRow_nil _ _ _ _, ?_⟩
    have hQ := HW.out
    (repeat refine up_set ?_ _ _ (by first | exact Nat.le_refl _ | (simp; done) | (simp; omega) | omega))
    exact hQ

set_option maxRecDepth 100000 in
set_option maxHeartbeats 2000000 in
theorem specEditorRun_yes (v lv : Value) (e : Es) (o rs : List (List UInt8)) (w : World) (h : RdM w v e.ms) (hin : EdIn e o) (hl : RdL w 1 strC lv rs) (hr : ∀ r ∈ rs, r.length ≤ 1048576) (h120 : rs.length ≤ 120) :
    Calls Tryz.prog 14 #[edW e v, lv] w (ErPost (runE e o rs).1 (runE e o rs).2.2 w) := by
  have hst := RunAt.start hin rs
  obtain ⟨X, hX⟩ : ∃ X, X = (runE e o rs).1 := ⟨_, rfl⟩
  obtain ⟨N, hN⟩ : ∃ N, N = (runE e o rs).2.2 := ⟨_, rfl⟩
  rw [← hX, ← hN] at hst ⊢
  clear hX hN
  have hok := hin.ok
  have hn : e.ms.length ≤ 1048576 := by have := hin.g.n30; omega
  have hs : e.s.length ≤ maxLen := by have := tv_len hin.g.t; unfold maxLen; omega
  have hc : e.cl.length ≤ maxLen := by have := tv_len hin.c; unfold maxLen; omega
  have HST := Lib.hid hst
  have HRS := Lib.hid hr
  have HV := Lib.hid hl
  have HP := Lib.hid h.2
  have HK := Lib.hid hok
  clear hst hr hin hok
  obtain ⟨s, x, cl, ms, pa⟩ := e
  simp only at *
  obtain ⟨A, kk, rfl, _, _⟩ := h.1.form
  obtain ⟨LA, LC, rfl, _, _⟩ := hl.form
  have OW := Lib.hid (fun (w' : World) (hb : Below w.heap.size w w') => l1OwnEditor_any (.slice A ms.length kk) ms pa s x cl w' (h.up hb) hn)
  have EV := Lib.hid (fun (u : Value) (w' : World) (h' : RdM w' u ms) => specEditorValid_any u ms pa s x cl w' h' hn hs hc)
  unfold EdOwn at OW
  unfold EvPost at EV
  unfold edAgg at OW EV
  unfold ErPost edW
  unfold edAgg
  simp only
  have i1 : ¬ (120 : Int) < (rs.length : Int) := by omega
  clear h hl
  go_enter Tryz.func14, Tryz.ntmps14
  go_wp2_with fail
  refine (OW.out _ (by exact bBel)).mono ?_
  rintro en w1 ⟨u, rfl, ho, hb⟩
  have xc : ∀ o, w1.cell? ⟨w.heap.size, o, none⟩ = #[S s, .int .i64 x, S cl, .slice A ms.length kk, .int .i64 pa][o]? := (fun o => (hb.cell (p := ⟨w.heap.size, o, none⟩) (by simp <;> omega)).trans (by simp [go_sem])); have xf : ∀ o, w1.frozen? ⟨w.heap.size, o, none⟩ = false := (fun o => (hb.frozen (p := ⟨w.heap.size, o, none⟩) (by simp <;> omega)).trans (by simp [go_sem])); have xz : w.heap.size < w1.heap.size := (by have := hb.size; (try simp at this); omega); have xy := xz
  have zc : ∀ o, w1.cell? ⟨w.heap.size + 1, o, none⟩ = #[S [], .int .i64 0, S [], .slice none 0 0, .int .i64 0][o]? := (fun o => (hb.cell (p := ⟨w.heap.size + 1, o, none⟩) (by simp <;> omega)).trans (by simp [go_sem])); have zf : ∀ o, w1.frozen? ⟨w.heap.size + 1, o, none⟩ = false := (fun o => (hb.frozen (p := ⟨w.heap.size + 1, o, none⟩) (by simp <;> omega)).trans (by simp [go_sem])); have zz : w.heap.size + 1 < w1.heap.size := (by have := hb.size; (try simp at this); omega); have zy := zz
  have hW : Below w.heap.size w w1 := by exact bBel
  have HO1 := Lib.hid (own_base ho (show w.heap.size + 2 ≤ _ by simp))
  obtain ⟨UA, UC, rfl, -, -⟩ := (RdL.of_own (f := moC) (bs := ms) ho).form
  have HW := Lib.hid hW
  clear hb ho OW hW xy zy
  go_upto_region 2 with (fail)
  obtain ⟨W2, hw⟩ : ∃ q, q = ((((w1.setCell ⟨w.heap.size, 0, none⟩ (S s)).setCell ⟨w.heap.size, 1, none⟩ (.int .i64 x)).setCell ⟨w.heap.size, 2, none⟩ (S cl)).setCell ⟨w.heap.size, 3, none⟩ (.slice UA ms.length UC)).setCell ⟨w.heap.size, 4, none⟩ (.int .i64 pa) := ⟨_, rfl⟩
  rw [← hw]
  have xI : Is W2 w.heap.size #[S s, .int .i64 x, S cl, .slice UA ms.length UC, .int .i64 pa] := by rw [hw]; exact is_all5 ⟨xc, xf⟩ _ _ _ _ _
  have zI : Is W2 (w.heap.size + 1) #[S [], .int .i64 0, S [], .slice none 0 0, .int .i64 0] := by rw [hw]; exact is_far5 ⟨zc, zf⟩ (by omega) _ _ _ _ _
  have hB2 : Below w.heap.size w1 W2 := by
    rw [hw]
    have hQ := Below.refl w.heap.size w1
    (repeat refine Below.setCell ?_ (by first | exact Nat.le_refl _ | (simp; done) | (simp; omega)) _)
    exact hQ
  have HO2 := Lib.hid (show OwnM W2 (w.heap.size + 2) (.slice UA ms.length UC) ms by rw [hw]; exact own_all5 HO1.out (by omega) _ _ _ _ _)
  have zz2 : w.heap.size + 1 < W2.heap.size := Nat.lt_of_lt_of_le zz hB2.size
  have HW2 := Lib.hid (show Below w.heap.size w W2 from HW.out.trans hB2)
  have xc2 := xI.1
  have HR2 := Lib.hid (show RdM W2 (.slice UA ms.length UC) ms from ⟨RdL.of_own HO2.out, HP.out⟩)
  clear hw hB2 HO1 HW xc xf xz zc zf zz
  go_wp2_with fail
  refine (EV.out _ _ HR2.out).mono ?_
  rintro en w3 ⟨ok, rfl, hh, hb⟩
  obtain rfl : ok = true := hh.2 HK.out
  have XI := Lib.hid (xI.up (by omega) hb)
  have YI := Lib.hid (zI.up zz2 hb)
  have HW := Lib.hid (up_trans HW2.out hb)
  have HO3 := Lib.hid (own_up HO2.out hb)
  have HR3 := Lib.hid (HR2.out.up hb)
  have xz : w.heap.size + 1 < w3.heap.size := Nat.lt_of_lt_of_le zz2 hb.size
  clear hb EV HO2 HW2 zI xI xc2 zz2 hh HK HR2 HP
  go_wp2_with fail
  go_loopw [6, 7, 8, 9] (fun n i v8 v9 wr => ∃ (k m : Nat) (en : Es) (u x8 x9 : Value), v8 = x8 ∧ v9 = x9 ∧ k ≤ rs.length ∧ i = .int .i64 k ∧ n = .int .i64 m ∧ m ≤ k ∧ Hid (Is wr w.heap.size #[S en.s, .int .i64 en.x, S en.cl, u, .int .i64 en.pa]) ∧ Hid (OwnM wr (w.heap.size + 2) u en.ms) ∧ Hid (RdM wr u en.ms) ∧ Hid (RunAt X N rs k en m) ∧ Hid (Is wr (w.heap.size + 1) #[S [], .int .i64 0, S [], .slice none 0 0, .int .i64 0]) ∧ Hid (Below w.heap.size w wr) ∧ w.heap.size + 1 < wr.heap.size) (fun _ i _ _ _ => rs.length - (intOf i).toNat)
  case atStart => exact ⟨0, 0, ⟨s, x, cl, ms, pa⟩, _, _, _, rfl, rfl, Nat.zero_le _, rfl, rfl, Nat.le_refl _, XI, HO3, HR3, HST, YI, HW, xz⟩
  case round =>
    obtain ⟨k, m, en, u, x8, x9, rfl, rfl, hk, rfl, rfl, hm, XIr, HOr, HRr, HSr, YIr, HWr, yzr⟩ := hrel
    clear XI HO3 HR3 HST YI HW xz
    have xzr : w.heap.size < wr.heap.size := by omega
    by_cases hlt : k < rs.length
    · have j1 : (0 : Int) ≤ (k : Int) := by omega
      have j2 : (k : Int) < (rs.length : Int) := by omega
      have j3 : (m : Int) ≤ 120 := by omega
      have j4 : (k : Int) ≤ 120 := by omega
      obtain ⟨b, q, rfl, hbz, hcl⟩ := (RdL.up HV.out HWr.out).cells strC_len hlt
      have c0 := hcl 0 _ rfl
      simp only [Nat.mul_one, Nat.add_zero] at c0
      obtain ⟨o', hin', hs'⟩ := HSr.out.step hlt
      have hrl := HRS.out _ (List.getElem_mem hlt)
      have U := Lib.hid (fun (w' : World) (hb : Below wr.heap.size wr w') => specEditorDo_any u en o' rs[k] w' (HRr.out.up hb) hin' hrl)
      unfold EdOut edW edAgg at U
      obtain ⟨e2, he2⟩ : ∃ z, z = (edDo en o' (akOf rs[k])).getD en := ⟨_, rfl⟩
      obtain ⟨ok, hok⟩ : ∃ z, z = (edDo en o' (akOf rs[k])).isSome := ⟨_, rfl⟩
      rw [← he2, ← hok] at U hs'
      have HS2 := Lib.hid hs'
      clear he2 hok hin' hs' hcl hrl
      generalize rs[k] = r at c0 U
      obtain ⟨s1, x1, cl1, ms1, pa1⟩ := en
      obtain ⟨s2, x2, cl2, ms2, pa2⟩ := e2
      simp only at XIr HOr HRr U
      obtain ⟨A1, c1, rfl, -, -⟩ := HRr.out.1.form
      have xc := XIr.out.1
      have xf := XIr.out.2
      clear HOr
      go_wp2_with fail
      --EVER{spec.EditorRun;8;er8}
      refine wp_region_everL (R := RX (XE s2 x2 cl2 ms2 pa2) wr.heap.size wr.heap.size) (M := fun _ _ => True) 0 (fun _ => True) [(xEq _ _ _ (.agg #[S s1, .int .i64 x1, S cl1, .slice A1 ms1.length c1, .int .i64 pa1])).l, (xEq _ _ _ (.slice (some ⟨b, q, none⟩) rs.length LC)).l, (xEq _ _ _ (.int .i64 k)).l, (xEq _ _ _ (.pointer (some ⟨b, q + k, none⟩))).l, (xEq _ _ _ (S r)).l, (xRow (XE s2 x2 cl2 ms2 pa2) _ _ (fun u => .tuple #[.agg #[S s2, .int .i64 x2, S cl2, u, .int .i64 pa2], .bool ok]) 96 (xe_ne _ _ _ _ _) 7 ms2.length (ms2.flatMap moC)).l, (xRow (XE s2 x2 cl2 ms2 pa2) _ _ (fun u => .tuple #[.agg #[S s2, .int .i64 x2, S cl2, u, .int .i64 pa2], .bool ok]) 96 (xe_ne _ _ _ _ _) 7 ms2.length (ms2.flatMap moC)).l, (xRow (XE s2 x2 cl2 ms2 pa2) _ _ (fun u => .agg #[S s2, .int .i64 x2, S cl2, u, .int .i64 pa2]) 96 (xe_ne _ _ _ _ _) 7 ms2.length (ms2.flatMap moC)).l, (xEq _ _ _ (.bool ok)).l, (xBox (XE s2 x2 cl2 ms2 pa2) _ _).l, xPut (XE s2 x2 cl2 ms2 pa2) _ _ 8, (xEq _ _ _ (.bool ok)).l] (by kernel_rfl) (RX.refl _ _ _) (fun _ _ _ => RX.trans) (by kernel_rfl) (by kernel_rfl) (trivial) (trivial) ?_ ?_
      · refine ⟨?_, ?_, ?_, ?_, ?_, ?_, ?_, ?_, ?_, ?_, ?_, ?_, trivial⟩
        · intro k' w' ρ hk' hR hM hD hF
          replace hk' : k' < 12 := hk'
          obtain ⟨f0, -⟩ := hF
          replace f0 : ρ (.tmp 2) = .pointer (some ⟨w.heap.size, 0, none⟩) := f0
          refine goodL_of (fun _ => trivial) fun K hK => ?_
          have z0 := (hR.of_drew.cell xzr xzr  0).trans (xc 0); have z1 := (hR.of_drew.cell xzr xzr  1).trans (xc 1); have z2 := (hR.of_drew.cell xzr xzr  2).trans (xc 2); have z3 := (hR.of_drew.cell xzr xzr  3).trans (xc 3); have z4 := (hR.of_drew.cell xzr xzr  4).trans (xc 4); go_simp; exact hK _ _ (RX.refl _ _ _ _) (⟨trivial, fun _ h => h⟩) rfl
        · intro k' w' ρ hk' hR hM hD hF
          replace hk' : k' < 12 := hk'
          obtain ⟨f0, -⟩ := hF
          replace f0 : ρ (.tmp 1) = .slice (some ⟨b, q, none⟩) rs.length LC := f0
          exact ⟨RX.refl _ _ _ _, ⟨trivial, fun _ h => h⟩, f0, trivial⟩
        · intro k' w' ρ hk' hR hM hD hF
          replace hk' : k' < 12 := hk'
          obtain ⟨f0, -⟩ := hF
          replace f0 : ρ (.tmp 7) = .int .i64 k := f0
          exact ⟨RX.refl _ _ _ _, ⟨trivial, fun _ h => h⟩, f0, trivial⟩
        · intro k' w' ρ hk' hR hM hD hF
          replace hk' : k' < 12 := hk'
          obtain ⟨f0, f1, -⟩ := hF
          replace f0 : ρ (.tmp 29) = .slice (some ⟨b, q, none⟩) rs.length LC := f0
          replace f1 : ρ (.tmp 30) = .int .i64 k := f1
          refine goodL_of (fun _ => trivial) fun K hK => ?_
          go_simp; exact hK _ _ (RX.refl _ _ _ _) ⟨trivial, fun _ h => h⟩ rfl
        · intro k' w' ρ hk' hR hM hD hF
          replace hk' : k' < 12 := hk'
          obtain ⟨f0, -⟩ := hF
          replace f0 : ρ (.tmp 31) = .pointer (some ⟨b, q + k, none⟩) := f0
          refine goodL_of (fun _ => trivial) fun K hK => ?_
          have z0 := (hR.of_drew.cell hbz hbz (q + k)).trans c0; go_simp; exact hK _ _ (RX.refl _ _ _ _) ⟨trivial, fun _ h => h⟩ rfl
        · intro k' w' ρ hk' hR hM hD hF
          replace hk' : k' < 12 := hk'
          obtain ⟨f0, f1, f2, -⟩ := hF
          replace f0 : ρ (.func _) = .func (.func _) #[] #[] := f0
          replace f1 : ρ (.tmp 28) = .agg #[S s1, .int .i64 x1, S cl1, .slice A1 ms1.length c1, .int .i64 pa1] := f1
          replace f2 : ρ (.tmp 32) = S r := f2
          refine goodL_of (fun _ => trivial) fun K hK => ?_
          go_simp; refine (U.out _ hR.of_drew.to_below).mono ?_; rintro e wc ⟨v0, rfl, ho, hb⟩; exact ⟨_, rfl, hK _ _ (RX.of_below hb) ⟨trivial, fun _ _ => trivial⟩ ⟨v0, rfl, own_base ho hR.size⟩⟩
        · intro k' w' ρ hk' hR hM hD hF
          replace hk' : k' < 12 := hk'
          obtain ⟨f0, -⟩ := hF
          exact ⟨RX.refl _ _ _ _, ⟨trivial, fun _ h => h⟩, f0, trivial⟩
        · intro k' w' ρ hk' hR hM hD hF
          replace hk' : k' < 12 := hk'
          obtain ⟨f0, -⟩ := hF
          refine goodL_of (fun _ => trivial) fun K hK => ?_
          obtain ⟨v0, f0, q0⟩ := f0; replace f0 : ρ (.tmp _) = .tuple #[.agg #[S s2, .int .i64 x2, S cl2, v0, .int .i64 pa2], .bool ok] := f0; have Q0 := Lib.hid q0; clear q0; go_simp; exact hK _ _ (RX.refl _ _ _ _) ⟨trivial, fun _ h => h⟩ ⟨v0, rfl, Q0.out⟩
        · intro k' w' ρ hk' hR hM hD hF
          replace hk' : k' < 12 := hk'
          obtain ⟨f0, -⟩ := hF
          refine goodL_of (fun _ => trivial) fun K hK => ?_
          obtain ⟨v0, f0, q0⟩ := f0; replace f0 : ρ (.tmp _) = .tuple #[.agg #[S s2, .int .i64 x2, S cl2, v0, .int .i64 pa2], .bool ok] := f0; have Q0 := Lib.hid q0; clear q0; go_simp; exact hK _ _ (RX.refl _ _ _ _) ⟨trivial, fun _ h => h⟩ rfl
        · intro k' w' ρ hk' hR hM hD hF
          replace hk' : k' < 12 := hk'
          refine goodL_of (fun _ => trivial) fun K hK => ?_
          have hBz : _ ≤ w'.heap.size := hR.size; go_simp; exact hK _ _ (RX.of_below (up_alloc (Below.refl _ _) _)) ⟨trivial, fun _ _ => trivial⟩ ⟨_, rfl, hBz, by simp, (xbox_mk (XE s2 x2 cl2 ms2 pa2) _ _ rfl).1, (xbox_mk (XE s2 x2 cl2 ms2 pa2) _ _ rfl).2⟩
        · intro k' w' ρ hk' hR hM hD hF
          replace hk' : k' < 12 := hk'
          obtain ⟨f0, f1, -⟩ := hF
          refine goodL_ofs fun K hK => ?_
          obtain ⟨bi, f0, bB, bz, bT, bI⟩ := f0; replace f0 : ρ (.tmp 8) = .pointer (some ⟨bi, 0, none⟩) := f0; obtain ⟨u1, f1, q1⟩ := f1; obtain ⟨A1, c1, rfl, -, -⟩ := (RdL.of_own (f := moC) (bs := ms2) q1).form; replace f1 : ρ (.tmp _) = .agg #[S s2, .int .i64 x2, S cl2, .slice A1 ms2.length c1, .int .i64 pa2] := f1; obtain ⟨bK, bG⟩ := xput_mk (X := (XE s2 x2 cl2 ms2 pa2)) bT bI q1 bB; obtain ⟨bV, hbV, bI⟩ := bI; obtain ⟨b0, b1, b2, b3, b4, e0, e1, e2, e3, e4⟩ := is_five bI hbV; have qf := bI.2; clear bI q1; go_simp; refine hK _ _ bG ⟨trivial, fun _ _ => trivial⟩ trivial ?_; intro i hi; replace hi := hi.symm.trans f0; cases hi; exact ⟨by simpa [World.setCell] using bz, bK⟩
        · intro k' w' ρ hk' hR hM hD hF
          replace hk' : k' < 12 := hk'
          obtain ⟨f0, -⟩ := hF
          replace f0 : ρ (.tmp 35) = .bool ok := f0
          exact ⟨RX.refl _ _ _ _, ⟨trivial, fun _ h => h⟩, f0, trivial⟩
      · intro w' hR hM
        rintro _ rfl -
        rintro _ rfl -
        rintro _ rfl -
        rintro _ rfl -
        rintro _ rfl -
        rintro _ ⟨_, rfl, -⟩ -
        rintro _ ⟨_, rfl, -⟩ -
        rintro _ ⟨_, rfl, -⟩ -
        rintro _ rfl -
        rintro _ ⟨nb, rfl, nbB, nbz, -, -⟩ -
        rintro _ - nbS
        rintro _ rfl -
      --END
      --END
        dsimp only [EndAllL, Act.put]
        simp only [List.setIfInBounds_toArray, List.set_cons_zero, List.set_cons_succ]
        obtain ⟨W7, rfl⟩ : ∃ z, z = w' := ⟨_, rfl⟩
        obtain ⟨nz, hnk, V0, ⟨nc, nf⟩, ho6⟩ := nbS _ rfl
        replace nc : ∀ o, W7.cell? ⟨nb, o, none⟩ = #[S s2, .int .i64 x2, S cl2, V0, .int .i64 pa2][o]? := nc
        replace ho6 : OwnM W7 wr.heap.size V0 ms2 := ho6
        have hb7 : Below wr.heap.size wr W7 := hR.of_drew.to_below
        obtain ⟨A6, c6, rfl, -, -⟩ := (RdL.of_own (f := moC) (bs := ms2) ho6).form
        have hp6 := HS2.out.in_
        have HR6 := Lib.hid (show RdM W7 (.slice A6 ms2.length c6) ms2 from by obtain ⟨o6, h6⟩ := hp6; exact rdM_good ho6 h6.g)
        have HO6 := Lib.hid ho6
        have xI7 := XIr.out.up xzr hb7
        have yI7 := YIr.out.up yzr hb7
        have xz7 := Nat.lt_of_lt_of_le yzr hb7.size
        have HW7 := Lib.hid (up_trans HWr.out hb7)
        clear hR hM hnk nbS hp6 ho6 xc xf
        have xc := xI7.1
        have xf := xI7.2
        have hne1 : ¬ w.heap.size = nb := by omega
        have hne2 : ¬ nb = w.heap.size := by omega
        have ZI := Lib.hid (is_all5 xI7 (S s2) (.int .i64 x2) (S cl2) (.slice A6 ms2.length c6) (.int .i64 pa2))
        have ZY := Lib.hid (is_far5 yI7 (show w.heap.size + 1 ≠ w.heap.size by omega) (S s2) (.int .i64 x2) (S cl2) (.slice A6 ms2.length c6) (.int .i64 pa2))
        have ZO := Lib.hid (own_all5 HO6.out xzr (S s2) (.int .i64 x2) (S cl2) (.slice A6 ms2.length c6) (.int .i64 pa2))
        have ZW := Lib.hid (show Below w.heap.size w (((((W7.setCell ⟨w.heap.size, 0, none⟩ (S s2)).setCell ⟨w.heap.size, 1, none⟩ (.int .i64 x2)).setCell ⟨w.heap.size, 2, none⟩ (S cl2)).setCell ⟨w.heap.size, 3, none⟩ (.slice A6 ms2.length c6)).setCell ⟨w.heap.size, 4, none⟩ (.int .i64 pa2)) by
          have hQ := HW7.out
          (repeat refine up_set ?_ _ _ (Nat.le_refl _))
          exact hQ)
        have hz : w.heap.size + 1 < (((((W7.setCell ⟨w.heap.size, 0, none⟩ (S s2)).setCell ⟨w.heap.size, 1, none⟩ (.int .i64 x2)).setCell ⟨w.heap.size, 2, none⟩ (S cl2)).setCell ⟨w.heap.size, 3, none⟩ (.slice A6 ms2.length c6)).setCell ⟨w.heap.size, 4, none⟩ (.int .i64 pa2)).heap.size := by simpa [World.setCell] using xz7
        have ZR := Lib.hid (show RdM _ (.slice A6 ms2.length c6) ms2 from ⟨RdL.of_own ZO.out, HR6.out.2⟩)
        have ZO2 := Lib.hid (own_base ZO.out (show w.heap.size + 2 ≤ _ by omega))
        clear hb7 xI7 yI7 HO6 HR6 HWr HW7 XIr YIr ZO
        rcases ok with _ | _
        · go_wp2_with fail
          go_roundw
          case rel => exact ⟨k + 1, m, ⟨s2, x2, cl2, ms2, pa2⟩, _, _, _, rfl, rfl, by omega, by go_num, rfl, by omega, ZI, ZO2, ZR, HS2, ZY, ZW, hz⟩
          case measure => simp [intOf]; omega
        · go_wp2_with fail
          go_roundw
          case rel => exact ⟨k + 1, m + 1, ⟨s2, x2, cl2, ms2, pa2⟩, _, _, _, rfl, rfl, by omega, by go_num, by go_num, by omega, ZI, ZO2, ZR, HS2, ZY, ZW, hz⟩
          case measure => simp [intOf]; omega
    · obtain rfl : k = rs.length := by omega
      obtain ⟨hX, hN⟩ := HSr.out.last
      obtain ⟨s1, x1, cl1, ms1, pa1⟩ := en
      subst hX hN
      simp only at XIr HOr HRr ⊢
      obtain ⟨A1, c1, rfl, -, -⟩ := HRr.out.1.form
      have xc := XIr.out.1
      have yc := YIr.out.1
      have yf := YIr.out.2
      clear HRr HSr XIr YIr
      go_wp2_with fail
      refine bodyPost_ret (v := .tuple #[.agg #[S s1, .int .i64 x1, S cl1, .slice A1 ms1.length c1, .int .i64 pa1], .int .i64 N]) (by simp [results, Tryz.results14, go_sem, yc]) rfl ⟨_, rfl, ?_, by (have hQ := HWr.out; (repeat refine up_set ?_ _ _ (by first | exact Nat.le_refl _ | (simp; done) | (simp; omega) | omega)); exact hQ)⟩
      exact own_base (own_all5 HOr.out (by omega) _ _ _ _ _) (by omega)

def RunFacts (e : Es) (rs : List (List UInt8)) (X : Es) (N : Int) : Prop :=
  (∀ v lv w', RdM w' v e.ms → RdL w' 1 strC lv rs → LW w' → Calls Tryz.prog 13 #[edW e v, lv] w' (ErPost X N w')) ∧
  (∀ v lv w', RdM w' v e.ms → RdL w' 1 strC lv rs → Calls Tryz.prog 14 #[edW e v, lv] w' (ErPost X N w'))
theorem run_facts (e : Es) (rs : List (List UInt8)) (hs : e.s.length ≤ maxLen) (hc : e.cl.length ≤ maxLen) (hn : e.ms.length ≤ 1048576) (hr : ∀ r ∈ rs, r.length ≤ 1048576) :
    ∃ X N, RunFacts e rs X N ∧ ((∃ o, EdIn e o ∧ rs.length ≤ 120 ∧ X = (runE e o rs).1 ∧ N = ((runE e o rs).2.2 : Nat)) ∨ (X = e0 ∧ N = -1)) := by
  by_cases hg : EdOk e.ms e.pa e.s e.x e.cl ∧ rs.length ≤ 120
  · obtain ⟨o, hin⟩ := edIn_of (e := e) hg.1
    exact ⟨_, _, ⟨fun v lv w' h1 h2 h3 => implEditorRun_yes v lv e o rs w' h1 hin h2 hr hg.2 h3, fun v lv w' h1 h2 => specEditorRun_yes v lv e o rs w' h1 hin h2 hr hg.2⟩, .inl ⟨o, hin, hg.2, rfl, rfl⟩⟩
  · exact ⟨e0, -1, ⟨fun v lv w' h1 h2 _ => implEditorRun_no v lv e rs w' h1 hn hs hc h2 hg, fun v lv w' h1 h2 => specEditorRun_no v lv e rs w' h1 hn hs hc h2 hg⟩, .inr ⟨rfl, rfl⟩⟩
/-- two parts of the actions. -/
theorem run_parts {e : Es} {o rs : List (List UInt8)} {k : Nat} (hin : EdIn e o) (hk : k ≤ rs.length) :
    ∃ ea oa ni nj, runE e o (rs.take k) = (ea, oa, ni) ∧ EdIn ea oa ∧ (runE ea oa (rs.drop k)).1 = (runE e o rs).1 ∧ (runE ea oa (rs.drop k)).2.2 = nj ∧ (runE e o rs).2.2 = ni + nj := by
  have h := runE_app (rs.take k) (rs.drop k) e o
  rw [List.take_append_drop] at h
  have h2 := runE_in (rs.take k) hin
  refine ⟨(runE e o (rs.take k)).1, (runE e o (rs.take k)).2.1, (runE e o (rs.take k)).2.2, _, rfl, h2, ?_, rfl, ?_⟩
  · rw [h]
  · rw [h]

theorem run_small {e X : Es} {rs : List (List UInt8)} {N : Int} (h : (∃ o, EdIn e o ∧ rs.length ≤ 120 ∧ X = (runE e o rs).1 ∧ N = ((runE e o rs).2.2 : Nat)) ∨ (X = e0 ∧ N = -1)) : X.ms.length ≤ 30 ∧ ∀ m ∈ X.ms, m.f.p.length ≤ 1048576 ∧ m.b.p.length ≤ 1048576 := by
  rcases h with ⟨o, hin, _, hX, _⟩ | ⟨hX, _⟩
  · rw [hX]
    exact (EVal.weak ⟨_, runE_in rs hin⟩).2.2
  · rw [hX]
    exact ⟨by simp [e0], fun m hm => by simp [e0] at hm⟩

end Go.Proofs.YtbjlkdenkmbepaaGreatDoor
