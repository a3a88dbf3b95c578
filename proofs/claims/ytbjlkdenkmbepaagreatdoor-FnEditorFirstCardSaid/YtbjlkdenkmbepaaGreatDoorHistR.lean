/- What is proved here: contracts of HistoryTo in the program and in the reference. No condition. -/
import Derived.Test.YtbjlkdenkmbepaaGreatDoorHistC
namespace Go.Proofs.YtbjlkdenkmbepaaGreatDoor
open Go.RowKit
set_option linter.unusedVariables false

/-- what a call gives that returns a history, its text, and whether it was done. -/
def HRes (ms : List Mo) (a : Int) (t : List UInt8) (ok : Bool) (w : World) (e : Ending) (w' : World) : Prop :=
  ∃ v, e = .returned (.tuple #[.agg #[v, .int .i64 a], S t, .bool ok]) ∧ OwnM w' w.heap.size v ms ∧ Below w.heap.size w w'
theorem hres_no {w w' : World} (hb : Below w.heap.size w w') : HRes [] 0 [] false w (.returned (.tuple #[.agg #[.slice none 0 0, .int .i64 0], S [], .bool false])) w' :=
  ⟨_, rfl, World.ownsRow_nil _ _ _ _, hb⟩
def toAt (n : Nat) (a to_ : Int) : Int := if inB to_ 0 ((n : Int) - 1) = true then to_ else a
def toText (n : Nat) (o : List (List UInt8)) (s : List UInt8) (to_ : Int) : List UInt8 := if inB to_ 0 ((n : Int) - 1) = true then o.getD to_.toNat [] else s

theorem good_uniq {ms : List Mo} {a : Int} {s : List UInt8} {q o : List (List UInt8)} (hq : HGood ms a s q) (ho : HGood ms a s o) : q = o := by
  have key : ∀ k, k < ms.length → q.getD k [] = o.getD k [] → q.getD 0 [] = o.getD 0 [] := by
    intro k
    induction k using Nat.strongRecOn with
    | ind k ih =>
      intro hk he
      by_cases h0 : k = 0
      · subst h0; exact he
      · obtain ⟨b1, b2, _, b4⟩ := hq.back (by omega) hk
        obtain ⟨_, _, _, c4⟩ := ho.back (by omega) hk
        refine ih (ms.getD k m0).par.toNat (by omega) (by omega) ?_
        rw [b4, c4, he]
  have a0 := ho.a0
  have a1 := ho.a1
  have h0 := key a.toNat (by omega) (hq.at_.trans ho.at_.symm)
  have hs := good_same ho h0.symm (fun k h1 (h2 : k < ms.length) => hq.step k h1 h2)
  apply List.ext_getElem (by rw [hq.len, ho.len])
  intro k h1 h2
  have := hs k (by rw [← hq.len]; exact h1) (by rw [← hq.len]; exact h1)
  rwa [getD_at _ _ _ h1, getD_at _ _ _ h2] at this

set_option maxRecDepth 100000 in
set_option maxHeartbeats 1000000 in
theorem implHistoryTo_no (v : Value) (ms : List Mo) (a : Int) (s : List UInt8) (to_ : Int) (w : World) (h : RdM w v ms) (hn : ms.length ≤ 1048576) (hs : s.length ≤ maxLen) (hg : ¬ ∃ o, HGood ms a s o) :
    Calls Tryz.prog 74 #[.agg #[v, .int .i64 a], S s, .int .i64 to_] w (HRes [] 0 [] false w) := by
  obtain ⟨A, c, rfl, _, _⟩ := h.1.form
  have T := Lib.hid (fun (w' : World) (hb : Below w.heap.size w w') => implTexts_any (.slice A ms.length c) ms a s w' (h.up hb) hn hs)
  have HG := Lib.hid hg
  clear h hg
  go_enter Tryz.func74, Tryz.ntmps74
  go_wp2_with fail
  refine (T.out _ (by (repeat (first | exact Below.refl _ _ | assumption | refine Below.drew ?_ | refine up_drewN ?_ _ | refine up_alloc ?_ _ | refine up_set ?_ _ _ (by first | exact Nat.le_refl _ | (simp; done) | (simp; omega) | omega) | refine up_trans ?_ (by assumption))))).mono ?_
  rintro e w1 ⟨u, ok, rfl, hb, hh⟩
  obtain rfl : ok = false := by rcases hh with ⟨_, o, ho, _⟩ | ⟨h, _⟩; exact absurd ⟨o, ho⟩ HG.out; exact h
  have yc : ∀ o, w1.cell? ⟨w.heap.size + 1, o, none⟩ = #[.slice none 0 0, .int .i64 0][o]? := (fun o => (hb.cell (p := ⟨w.heap.size + 1, o, none⟩) (by simp <;> omega)).trans (by simp [go_sem])); have yf : ∀ o, w1.frozen? ⟨w.heap.size + 1, o, none⟩ = false := (fun o => (hb.frozen (p := ⟨w.heap.size + 1, o, none⟩) (by simp <;> omega)).trans (by simp [go_sem])); have yz : w.heap.size + 1 < w1.heap.size := (by have := hb.size; (try simp at this); omega); have yy := yz
  have hW : Below w.heap.size w w1 := by (repeat (first | exact Below.refl _ _ | assumption | refine Below.drew ?_ | refine up_drewN ?_ _ | refine up_alloc ?_ _ | refine up_set ?_ _ _ (by first | exact Nat.le_refl _ | (simp; done) | (simp; omega) | omega) | refine up_trans ?_ (by assumption)))
  clear hb hh T
  go_wp2_with fail
  refine bodyPost_ret (v := .tuple #[.agg #[.slice none 0 0, .int .i64 0], S [], .bool false]) (by simp [results, Tryz.results74, go_sem, yc]) rfl (hres_no (by (repeat (first | exact Below.refl _ _ | assumption | refine Below.drew ?_ | refine up_drewN ?_ _ | refine up_alloc ?_ _ | refine up_set ?_ _ _ (by first | exact Nat.le_refl _ | (simp; done) | (simp; omega) | omega) | refine up_trans ?_ (by assumption)))))

set_option maxRecDepth 100000 in
set_option maxHeartbeats 1000000 in
theorem specHistoryTo_no (v : Value) (ms : List Mo) (a : Int) (s : List UInt8) (to_ : Int) (w : World) (h : RdM w v ms) (hn : ms.length ≤ 1048576) (hs : s.length ≤ maxLen) (hg : ¬ ∃ o, HGood ms a s o) :
    Calls Tryz.prog 81 #[.agg #[v, .int .i64 a], S s, .int .i64 to_] w (HRes [] 0 [] false w) := by
  obtain ⟨A, c, rfl, _, _⟩ := h.1.form
  have T := Lib.hid (fun (w' : World) (hb : Below w.heap.size w w') => specHistoryValid_any (.slice A ms.length c) ms a s w' (h.up hb) hn hs)
  have HG := Lib.hid hg
  clear h hg
  go_enter Tryz.func81, Tryz.ntmps81
  go_wp2_with fail
  refine (T.out _ (by (repeat (first | exact Below.refl _ _ | assumption | refine Below.drew ?_ | refine up_drewN ?_ _ | refine up_alloc ?_ _ | refine up_set ?_ _ _ (by first | exact Nat.le_refl _ | (simp; done) | (simp; omega) | omega) | refine up_trans ?_ (by assumption))))).mono ?_
  rintro e w1 ⟨ok, rfl, hh, hb⟩
  obtain rfl : ok = false := by rcases ok with _ | _; rfl; exact absurd (hh.1 rfl) HG.out
  have yc : ∀ o, w1.cell? ⟨w.heap.size + 1, o, none⟩ = #[.slice none 0 0, .int .i64 0][o]? := (fun o => (hb.cell (p := ⟨w.heap.size + 1, o, none⟩) (by simp <;> omega)).trans (by simp [go_sem])); have yf : ∀ o, w1.frozen? ⟨w.heap.size + 1, o, none⟩ = false := (fun o => (hb.frozen (p := ⟨w.heap.size + 1, o, none⟩) (by simp <;> omega)).trans (by simp [go_sem])); have yz : w.heap.size + 1 < w1.heap.size := (by have := hb.size; (try simp at this); omega); have yy := yz
  have hW : Below w.heap.size w w1 := by (repeat (first | exact Below.refl _ _ | assumption | refine Below.drew ?_ | refine up_drewN ?_ _ | refine up_alloc ?_ _ | refine up_set ?_ _ _ (by first | exact Nat.le_refl _ | (simp; done) | (simp; omega) | omega) | refine up_trans ?_ (by assumption)))
  clear hb hh T
  go_wp2_with fail
  refine bodyPost_ret (v := .tuple #[.agg #[.slice none 0 0, .int .i64 0], S [], .bool false]) (by simp [results, Tryz.results81, go_sem, yc]) rfl (hres_no (by (repeat (first | exact Below.refl _ _ | assumption | refine Below.drew ?_ | refine up_drewN ?_ _ | refine up_alloc ?_ _ | refine up_set ?_ _ _ (by first | exact Nat.le_refl _ | (simp; done) | (simp; omega) | omega) | refine up_trans ?_ (by assumption)))))

set_option maxRecDepth 100000 in
set_option maxHeartbeats 1000000 in
theorem implHistoryTo_yes (v : Value) (ms : List Mo) (a : Int) (s : List UInt8) (to_ : Int) (w : World) (o : List (List UInt8)) (h : RdM w v ms) (hg : HGood ms a s o) :
    Calls Tryz.prog 74 #[.agg #[v, .int .i64 a], S s, .int .i64 to_] w (HRes ms (toAt ms.length a to_) (toText ms.length o s to_) (inB to_ 0 ((ms.length : Int) - 1)) w) := by
  have hn30 := hg.n30
  have hn1 := hg.n1
  have hsl := tv_len hg.t
  obtain ⟨A, c, rfl, _, _⟩ := h.1.form
  have T := Lib.hid (fun (w' : World) (hb : Below w.heap.size w w') => implTexts_any (.slice A ms.length c) ms a s w' (h.up hb) (by omega) (by unfold maxLen; omega))
  have C := Lib.hid (fun (w' : World) (hb : Below w.heap.size w w') => clone_any (.slice A ms.length c) ms a w' (h.up hb) (by omega))
  have I := Lib.hid (fun w => in_any to_ 0 ((ms.length : Int) - 1) w)
  have HG := Lib.hid hg
  have HU : Hid (∀ q, HGood ms a s q → q = o) := Lib.hid (fun q hq => good_uniq hq hg)
  clear h hg
  rcases hi : inB to_ 0 ((ms.length : Int) - 1) with _ | _
  · have hA := Lib.hid (show toAt ms.length a to_ = a by unfold toAt; rw [hi]; rfl)
    have hT := Lib.hid (show toText ms.length o s to_ = s by unfold toText; rw [hi]; rfl)
    rw [hi] at I
    clear hi
    rw [hA.out, hT.out]
    go_enter Tryz.func74, Tryz.ntmps74
    go_wp2_with fail
    refine (T.out _ (by (repeat (first | exact Below.refl _ _ | assumption | refine Below.drew ?_ | refine up_drewN ?_ _ | refine up_alloc ?_ _ | refine up_set ?_ _ _ (by first | exact Nat.le_refl _ | (simp; done) | (simp; omega) | omega) | refine up_trans ?_ (by assumption))))).mono ?_
    rintro e w1 ⟨u, ok, rfl, hb, hh⟩
    obtain rfl : ok = true := by rcases hh with ⟨h, _⟩ | ⟨_, hq⟩; exact h; exact absurd ⟨o, HG.out⟩ hq
    have xc : ∀ o, w1.cell? ⟨w.heap.size, o, none⟩ = #[.slice A ms.length c, .int .i64 a][o]? := (fun o => (hb.cell (p := ⟨w.heap.size, o, none⟩) (by simp <;> omega)).trans (by simp [go_sem])); have xf : ∀ o, w1.frozen? ⟨w.heap.size, o, none⟩ = false := (fun o => (hb.frozen (p := ⟨w.heap.size, o, none⟩) (by simp <;> omega)).trans (by simp [go_sem])); have xz : w.heap.size < w1.heap.size := (by have := hb.size; (try simp at this); omega); have xy := xz
    have yc : ∀ o, w1.cell? ⟨w.heap.size + 1, o, none⟩ = #[.slice none 0 0, .int .i64 0][o]? := (fun o => (hb.cell (p := ⟨w.heap.size + 1, o, none⟩) (by simp <;> omega)).trans (by simp [go_sem])); have yf : ∀ o, w1.frozen? ⟨w.heap.size + 1, o, none⟩ = false := (fun o => (hb.frozen (p := ⟨w.heap.size + 1, o, none⟩) (by simp <;> omega)).trans (by simp [go_sem])); have yz : w.heap.size + 1 < w1.heap.size := (by have := hb.size; (try simp at this); omega); have yy := yz
    have hW : Below w.heap.size w w1 := by (repeat (first | exact Below.refl _ _ | assumption | refine Below.drew ?_ | refine up_drewN ?_ _ | refine up_alloc ?_ _ | refine up_set ?_ _ _ (by first | exact Nat.le_refl _ | (simp; done) | (simp; omega) | omega) | refine up_trans ?_ (by assumption)))
    have hs1 : w.heap.size + 2 ≤ w1.heap.size := by omega
    clear hb hh T xy yy
    go_wp2_with fail
    refine (C.out _ (by (repeat (first | exact Below.refl _ _ | assumption | refine Below.drew ?_ | refine up_drewN ?_ _ | refine up_alloc ?_ _ | refine up_set ?_ _ _ (by first | exact Nat.le_refl _ | (simp; done) | (simp; omega) | omega) | refine up_trans ?_ (by assumption))))).mono ?_
    rintro e w2 ⟨v2, rfl, ho2, hb⟩
    have hB : Below w1.heap.size w1 w2 := (by (repeat (first | exact Below.refl _ _ | assumption | refine Below.drew ?_ | refine up_drewN ?_ _ | refine up_alloc ?_ _ | refine up_set ?_ _ _ (by first | exact Nat.le_refl _ | (simp; done) | (simp; omega) | omega) | refine up_trans ?_ (by assumption)))); replace xc := up_c hB xz xc; replace xf := up_f hB xz xf; replace xz := Nat.lt_of_lt_of_le xz hB.size; replace yc := up_c hB yz yc; replace yf := up_f hB yz yf; replace yz := Nat.lt_of_lt_of_le yz hB.size; have sw2 := hB.size; replace hW := up_trans hW hB; clear hB
    have HO := Lib.hid (own_base ho2 hs1)
    obtain ⟨A2, c2, rfl, -, -⟩ := (RdL.of_own (f := moC) (bs := ms) ho2).form
    have ne1 : ¬ w2.heap.size = w.heap.size := by omega
    have ne2 : ¬ w2.heap.size = w.heap.size + 1 := by omega
    have ne3 : ¬ w.heap.size = w2.heap.size := by omega
    have ne4 : ¬ w.heap.size + 1 = w2.heap.size := by omega
    clear hb ho2 C
    go_wp2_with fail
    refine (I.out _).mono ?_
    rintro e w3 ⟨rfl, rfl⟩
    go_wp2_with fail
    refine bodyPost_ret (v := .tuple #[.agg #[.slice A2 ms.length c2, .int .i64 a], S s, .bool false]) (by simp [results, Tryz.results74, go_sem, yc, yz]) rfl ⟨_, rfl, ?_, by (repeat (first | exact Below.refl _ _ | assumption | refine Below.drew ?_ | refine up_drewN ?_ _ | refine up_alloc ?_ _ | refine up_set ?_ _ _ (by first | exact Nat.le_refl _ | (simp; done) | (simp; omega) | omega) | refine up_trans ?_ (by assumption)))⟩
    exact own_base ((own_set (own_set HO.out _ _ (by simp)) _ _ (by simp)).alloc _) (by omega)
  · have hi2 := inB_iff.1 hi
    obtain ⟨tn, rfl⟩ : ∃ tn : Nat, to_ = tn := ⟨to_.toNat, by omega⟩
    have htn : tn < ms.length := by omega
    have hA := Lib.hid (show toAt ms.length a tn = tn by unfold toAt; rw [hi]; rfl)
    have hT := Lib.hid (show toText ms.length o s tn = o.getD tn [] by unfold toText; rw [hi, Int.toNat_natCast]; rfl)
    rw [hi] at I
    clear hi hi2
    rw [hA.out, hT.out]
    have hol := HG.out.len
    have j1 : (0 : Int) ≤ (tn : Int) := by omega
    have j2 : (tn : Int) < (ms.length : Int) := by omega
    go_enter Tryz.func74, Tryz.ntmps74
    go_wp2_with fail
    refine (T.out _ (by (repeat (first | exact Below.refl _ _ | assumption | refine Below.drew ?_ | refine up_drewN ?_ _ | refine up_alloc ?_ _ | refine up_set ?_ _ _ (by first | exact Nat.le_refl _ | (simp; done) | (simp; omega) | omega) | refine up_trans ?_ (by assumption))))).mono ?_
    rintro e w1 ⟨u, ok, rfl, hb, hh⟩
    obtain rfl : ok = true := by rcases hh with ⟨h, _⟩ | ⟨_, hq⟩; exact h; exact absurd ⟨o, HG.out⟩ hq
    have xc : ∀ o, w1.cell? ⟨w.heap.size, o, none⟩ = #[.slice A ms.length c, .int .i64 a][o]? := (fun o => (hb.cell (p := ⟨w.heap.size, o, none⟩) (by simp <;> omega)).trans (by simp [go_sem])); have xf : ∀ o, w1.frozen? ⟨w.heap.size, o, none⟩ = false := (fun o => (hb.frozen (p := ⟨w.heap.size, o, none⟩) (by simp <;> omega)).trans (by simp [go_sem])); have xz : w.heap.size < w1.heap.size := (by have := hb.size; (try simp at this); omega); have xy := xz
    have yc : ∀ o, w1.cell? ⟨w.heap.size + 1, o, none⟩ = #[.slice none 0 0, .int .i64 0][o]? := (fun o => (hb.cell (p := ⟨w.heap.size + 1, o, none⟩) (by simp <;> omega)).trans (by simp [go_sem])); have yf : ∀ o, w1.frozen? ⟨w.heap.size + 1, o, none⟩ = false := (fun o => (hb.frozen (p := ⟨w.heap.size + 1, o, none⟩) (by simp <;> omega)).trans (by simp [go_sem])); have yz : w.heap.size + 1 < w1.heap.size := (by have := hb.size; (try simp at this); omega); have yy := yz
    have hW : Below w.heap.size w w1 := by (repeat (first | exact Below.refl _ _ | assumption | refine Below.drew ?_ | refine up_drewN ?_ _ | refine up_alloc ?_ _ | refine up_set ?_ _ _ (by first | exact Nat.le_refl _ | (simp; done) | (simp; omega) | omega) | refine up_trans ?_ (by assumption)))
    obtain ⟨q, hq, ro⟩ : ∃ q, HGood ms a s q ∧ Own w1 _ 9 1 u q.length (q.flatMap stC) := by rcases hh with ⟨_, q, hq, hr⟩ | ⟨h, _⟩; exact ⟨q, hq, hr⟩; cases h
    rw [HU.out q hq] at ro
    clear hq q
    have hs1 : w.heap.size + 2 ≤ w1.heap.size := by omega
    clear hb hh T xy yy
    go_wp2_with fail
    refine (C.out _ (by (repeat (first | exact Below.refl _ _ | assumption | refine Below.drew ?_ | refine up_drewN ?_ _ | refine up_alloc ?_ _ | refine up_set ?_ _ _ (by first | exact Nat.le_refl _ | (simp; done) | (simp; omega) | omega) | refine up_trans ?_ (by assumption))))).mono ?_
    rintro e w2 ⟨v2, rfl, ho2, hb⟩
    have hB : Below w1.heap.size w1 w2 := (by (repeat (first | exact Below.refl _ _ | assumption | refine Below.drew ?_ | refine up_drewN ?_ _ | refine up_alloc ?_ _ | refine up_set ?_ _ _ (by first | exact Nat.le_refl _ | (simp; done) | (simp; omega) | omega) | refine up_trans ?_ (by assumption)))); replace xc := up_c hB xz xc; replace xf := up_f hB xz xf; replace xz := Nat.lt_of_lt_of_le xz hB.size; replace yc := up_c hB yz yc; replace yf := up_f hB yz yf; replace yz := Nat.lt_of_lt_of_le yz hB.size; replace ro := own_up ro hB; have sw2 := hB.size; replace hW := up_trans hW hB; clear hB
    have HO := Lib.hid (own_base ho2 hs1)
    obtain ⟨A2, c2, rfl, -, -⟩ := (RdL.of_own (f := moC) (bs := ms) ho2).form
    have ne1 : ¬ w2.heap.size = w.heap.size := by omega
    have ne2 : ¬ w2.heap.size = w.heap.size + 1 := by omega
    have ne3 : ¬ w.heap.size = w2.heap.size := by omega
    have ne4 : ¬ w.heap.size + 1 = w2.heap.size := by omega
    clear hb ho2 C
    go_wp2_with fail
    refine (I.out _).mono ?_
    rintro e w3 ⟨rfl, rfl⟩
    obtain ⟨RA, rc, rfl, _, _⟩ := (RdL.of_own (f := stC) ro).form
    obtain ⟨b2, o2, he2, hb2, hc2⟩ := RdL.cells stC_len (RdL.of_own (f := stC) ro) (k := tn) (by omega)
    subst he2
    have r0 := hc2 0 _ rfl
    simp only [Nat.mul_one, Nat.add_zero] at r0
    rw [← getD_at o [] tn] at r0
    have hbl := own_lt ro (Nat.le_refl _) b2 rfl
    have ne5 : ¬ b2 = w.heap.size + 1 := by simp at hbl; omega
    have ne6 : ¬ w.heap.size + 1 = b2 := fun e => ne5 e.symm
    clear hbl
    rw [hol] at *
    generalize o.getD tn [] = x at *
    go_wp2_with fail
    go_region
    all_goals
      go_wp2_with fail
      refine bodyPost_ret (v := .tuple #[.agg #[.slice A2 ms.length c2, .int .i64 tn], S x, .bool true]) (by simp [results, Tryz.results74, go_sem, yc, yz]) rfl ⟨_, rfl, ?_, by (repeat (first | exact Below.refl _ _ | assumption | refine Below.drew ?_ | refine up_drewN ?_ _ | refine up_alloc ?_ _ | refine up_set ?_ _ _ (by first | exact Nat.le_refl _ | (simp; done) | (simp; omega) | omega) | refine up_trans ?_ (by assumption)))⟩
      exact own_base ((own_set (own_set HO.out _ _ (by simp)) _ _ (by simp)).alloc _) (by omega)

set_option maxRecDepth 100000 in
set_option maxHeartbeats 1000000 in
theorem specHistoryTo_yes (v : Value) (ms : List Mo) (a : Int) (s : List UInt8) (to_ : Int) (w : World) (o : List (List UInt8)) (h : RdM w v ms) (hg : HGood ms a s o) :
    Calls Tryz.prog 81 #[.agg #[v, .int .i64 a], S s, .int .i64 to_] w (HRes ms (toAt ms.length a to_) (toText ms.length o s to_) (inB to_ 0 ((ms.length : Int) - 1)) w) := by
  have hn30 := hg.n30
  have hn1 := hg.n1
  have hsl := tv_len hg.t
  obtain ⟨A, c, rfl, _, _⟩ := h.1.form
  have T := Lib.hid (fun (w' : World) (hb : Below w.heap.size w w') => specHistoryValid_any (.slice A ms.length c) ms a s w' (h.up hb) (by omega) (by unfold maxLen; omega))
  have C := Lib.hid (fun (w' : World) (hb : Below w.heap.size w w') => l9Copy_any (.slice A ms.length c) ms a w' (h.up hb) (by omega))
  have I := Lib.hid (fun w => l1In_any to_ 0 ((ms.length : Int) - 1) w)
  have L := Lib.hid (fun (w' : World) (hb : Below w.heap.size w w') => l9Texts_any (.slice A ms.length c) ms a s w' (h.up hb) hg.t hn1 hn30 hg.m)
  have HG := Lib.hid hg
  have HU : Hid (∀ q, HGood ms a s q → q = o) := Lib.hid (fun q hq => good_uniq hq hg)
  clear h hg
  rcases hi : inB to_ 0 ((ms.length : Int) - 1) with _ | _
  · have hA := Lib.hid (show toAt ms.length a to_ = a by unfold toAt; rw [hi]; rfl)
    have hT := Lib.hid (show toText ms.length o s to_ = s by unfold toText; rw [hi]; rfl)
    rw [hi] at I
    clear hi
    rw [hA.out, hT.out]
    go_enter Tryz.func81, Tryz.ntmps81
    go_wp2_with fail
    refine (T.out _ (by (repeat (first | exact Below.refl _ _ | assumption | refine Below.drew ?_ | refine up_drewN ?_ _ | refine up_alloc ?_ _ | refine up_set ?_ _ _ (by first | exact Nat.le_refl _ | (simp; done) | (simp; omega) | omega) | refine up_trans ?_ (by assumption))))).mono ?_
    rintro e w1 ⟨ok, rfl, hh, hb⟩
    obtain rfl : ok = true := hh.2 ⟨o, HG.out⟩
    have xc : ∀ o, w1.cell? ⟨w.heap.size, o, none⟩ = #[.slice A ms.length c, .int .i64 a][o]? := (fun o => (hb.cell (p := ⟨w.heap.size, o, none⟩) (by simp <;> omega)).trans (by simp [go_sem])); have xf : ∀ o, w1.frozen? ⟨w.heap.size, o, none⟩ = false := (fun o => (hb.frozen (p := ⟨w.heap.size, o, none⟩) (by simp <;> omega)).trans (by simp [go_sem])); have xz : w.heap.size < w1.heap.size := (by have := hb.size; (try simp at this); omega); have xy := xz
    have yc : ∀ o, w1.cell? ⟨w.heap.size + 1, o, none⟩ = #[.slice none 0 0, .int .i64 0][o]? := (fun o => (hb.cell (p := ⟨w.heap.size + 1, o, none⟩) (by simp <;> omega)).trans (by simp [go_sem])); have yf : ∀ o, w1.frozen? ⟨w.heap.size + 1, o, none⟩ = false := (fun o => (hb.frozen (p := ⟨w.heap.size + 1, o, none⟩) (by simp <;> omega)).trans (by simp [go_sem])); have yz : w.heap.size + 1 < w1.heap.size := (by have := hb.size; (try simp at this); omega); have yy := yz
    have hW : Below w.heap.size w w1 := by (repeat (first | exact Below.refl _ _ | assumption | refine Below.drew ?_ | refine up_drewN ?_ _ | refine up_alloc ?_ _ | refine up_set ?_ _ _ (by first | exact Nat.le_refl _ | (simp; done) | (simp; omega) | omega) | refine up_trans ?_ (by assumption)))
    have hs1 : w.heap.size + 2 ≤ w1.heap.size := by omega
    clear hb hh T xy yy
    go_wp2_with fail
    refine (C.out _ (by (repeat (first | exact Below.refl _ _ | assumption | refine Below.drew ?_ | refine up_drewN ?_ _ | refine up_alloc ?_ _ | refine up_set ?_ _ _ (by first | exact Nat.le_refl _ | (simp; done) | (simp; omega) | omega) | refine up_trans ?_ (by assumption))))).mono ?_
    rintro e w2 ⟨v2, rfl, ho2, hb⟩
    have hB : Below w1.heap.size w1 w2 := (by (repeat (first | exact Below.refl _ _ | assumption | refine Below.drew ?_ | refine up_drewN ?_ _ | refine up_alloc ?_ _ | refine up_set ?_ _ _ (by first | exact Nat.le_refl _ | (simp; done) | (simp; omega) | omega) | refine up_trans ?_ (by assumption)))); replace xc := up_c hB xz xc; replace xf := up_f hB xz xf; replace xz := Nat.lt_of_lt_of_le xz hB.size; replace yc := up_c hB yz yc; replace yf := up_f hB yz yf; replace yz := Nat.lt_of_lt_of_le yz hB.size; have sw2 := hB.size; replace hW := up_trans hW hB; clear hB
    have HO := Lib.hid (own_base ho2 hs1)
    obtain ⟨A2, c2, rfl, -, -⟩ := (RdL.of_own (f := moC) (bs := ms) ho2).form
    have ne1 : ¬ w2.heap.size = w.heap.size := by omega
    have ne2 : ¬ w2.heap.size = w.heap.size + 1 := by omega
    have ne3 : ¬ w.heap.size = w2.heap.size := by omega
    have ne4 : ¬ w.heap.size + 1 = w2.heap.size := by omega
    clear hb ho2 C
    go_wp2_with fail
    refine (I.out _).mono ?_
    rintro e w3 ⟨rfl, rfl⟩
    go_wp2_with fail
    refine bodyPost_ret (v := .tuple #[.agg #[.slice A2 ms.length c2, .int .i64 a], S s, .bool false]) (by simp [results, Tryz.results81, go_sem, yc, yz]) rfl ⟨_, rfl, ?_, by (repeat (first | exact Below.refl _ _ | assumption | refine Below.drew ?_ | refine up_drewN ?_ _ | refine up_alloc ?_ _ | refine up_set ?_ _ _ (by first | exact Nat.le_refl _ | (simp; done) | (simp; omega) | omega) | refine up_trans ?_ (by assumption)))⟩
    exact own_base ((own_set (own_set HO.out _ _ (by simp)) _ _ (by simp)).alloc _) (by omega)
  · have hi2 := inB_iff.1 hi
    obtain ⟨tn, rfl⟩ : ∃ tn : Nat, to_ = tn := ⟨to_.toNat, by omega⟩
    have htn : tn < ms.length := by omega
    have hA := Lib.hid (show toAt ms.length a tn = tn by unfold toAt; rw [hi]; rfl)
    have hT := Lib.hid (show toText ms.length o s tn = o.getD tn [] by unfold toText; rw [hi, Int.toNat_natCast]; rfl)
    rw [hi] at I
    clear hi hi2
    rw [hA.out, hT.out]
    have hol := HG.out.len
    have j1 : (0 : Int) ≤ (tn : Int) := by omega
    have j2 : (tn : Int) < (ms.length : Int) := by omega
    go_enter Tryz.func81, Tryz.ntmps81
    go_wp2_with fail
    refine (T.out _ (by (repeat (first | exact Below.refl _ _ | assumption | refine Below.drew ?_ | refine up_drewN ?_ _ | refine up_alloc ?_ _ | refine up_set ?_ _ _ (by first | exact Nat.le_refl _ | (simp; done) | (simp; omega) | omega) | refine up_trans ?_ (by assumption))))).mono ?_
    rintro e w1 ⟨ok, rfl, hh, hb⟩
    obtain rfl : ok = true := hh.2 ⟨o, HG.out⟩
    have xc : ∀ o, w1.cell? ⟨w.heap.size, o, none⟩ = #[.slice A ms.length c, .int .i64 a][o]? := (fun o => (hb.cell (p := ⟨w.heap.size, o, none⟩) (by simp <;> omega)).trans (by simp [go_sem])); have xf : ∀ o, w1.frozen? ⟨w.heap.size, o, none⟩ = false := (fun o => (hb.frozen (p := ⟨w.heap.size, o, none⟩) (by simp <;> omega)).trans (by simp [go_sem])); have xz : w.heap.size < w1.heap.size := (by have := hb.size; (try simp at this); omega); have xy := xz
    have yc : ∀ o, w1.cell? ⟨w.heap.size + 1, o, none⟩ = #[.slice none 0 0, .int .i64 0][o]? := (fun o => (hb.cell (p := ⟨w.heap.size + 1, o, none⟩) (by simp <;> omega)).trans (by simp [go_sem])); have yf : ∀ o, w1.frozen? ⟨w.heap.size + 1, o, none⟩ = false := (fun o => (hb.frozen (p := ⟨w.heap.size + 1, o, none⟩) (by simp <;> omega)).trans (by simp [go_sem])); have yz : w.heap.size + 1 < w1.heap.size := (by have := hb.size; (try simp at this); omega); have yy := yz
    have hW : Below w.heap.size w w1 := by (repeat (first | exact Below.refl _ _ | assumption | refine Below.drew ?_ | refine up_drewN ?_ _ | refine up_alloc ?_ _ | refine up_set ?_ _ _ (by first | exact Nat.le_refl _ | (simp; done) | (simp; omega) | omega) | refine up_trans ?_ (by assumption)))
    have hs1 : w.heap.size + 2 ≤ w1.heap.size := by omega
    clear hb hh T xy yy
    go_wp2_with fail
    refine (C.out _ (by (repeat (first | exact Below.refl _ _ | assumption | refine Below.drew ?_ | refine up_drewN ?_ _ | refine up_alloc ?_ _ | refine up_set ?_ _ _ (by first | exact Nat.le_refl _ | (simp; done) | (simp; omega) | omega) | refine up_trans ?_ (by assumption))))).mono ?_
    rintro e w2 ⟨v2, rfl, ho2, hb⟩
    have hB : Below w1.heap.size w1 w2 := (by (repeat (first | exact Below.refl _ _ | assumption | refine Below.drew ?_ | refine up_drewN ?_ _ | refine up_alloc ?_ _ | refine up_set ?_ _ _ (by first | exact Nat.le_refl _ | (simp; done) | (simp; omega) | omega) | refine up_trans ?_ (by assumption)))); replace xc := up_c hB xz xc; replace xf := up_f hB xz xf; replace xz := Nat.lt_of_lt_of_le xz hB.size; replace yc := up_c hB yz yc; replace yf := up_f hB yz yf; replace yz := Nat.lt_of_lt_of_le yz hB.size; have sw2 := hB.size; replace hW := up_trans hW hB; clear hB
    have HO := Lib.hid (own_base ho2 hs1)
    obtain ⟨A2, c2, rfl, -, -⟩ := (RdL.of_own (f := moC) (bs := ms) ho2).form
    have ne1 : ¬ w2.heap.size = w.heap.size := by omega
    have ne2 : ¬ w2.heap.size = w.heap.size + 1 := by omega
    have ne3 : ¬ w.heap.size = w2.heap.size := by omega
    have ne4 : ¬ w.heap.size + 1 = w2.heap.size := by omega
    clear hb ho2 C
    go_wp2_with fail
    refine (I.out _).mono ?_
    rintro e w3 ⟨rfl, rfl⟩
    go_wp2_with fail
    refine (L.out _ (by (repeat (first | exact Below.refl _ _ | assumption | refine Below.drew ?_ | refine up_drewN ?_ _ | refine up_alloc ?_ _ | refine up_set ?_ _ _ (by first | exact Nat.le_refl _ | (simp; done) | (simp; omega) | omega) | refine up_trans ?_ (by assumption))))).mono ?_
    rintro e w3 ⟨u, ok, rfl, hb, hh⟩
    obtain rfl : ok = true := by rcases hh with ⟨h, _⟩ | ⟨_, hq⟩; exact h; exact absurd ⟨o, HG.out⟩ hq
    obtain ⟨q, hq, ro⟩ : ∃ q, HGood ms a s q ∧ Own w3 _ 9 1 u q.length (q.flatMap stC) := by rcases hh with ⟨_, q, hq, hr⟩ | ⟨h, _⟩; exact ⟨q, hq, hr⟩; cases h
    rw [HU.out q hq] at ro
    clear hq q
    have zc : ∀ o, w3.cell? ⟨w2.heap.size, o, none⟩ = #[.slice A2 ms.length c2, .int .i64 a][o]? := (fun o => (hb.cell (p := ⟨w2.heap.size, o, none⟩) (by simp <;> omega)).trans (by simp [go_sem])); have zf : ∀ o, w3.frozen? ⟨w2.heap.size, o, none⟩ = false := (fun o => (hb.frozen (p := ⟨w2.heap.size, o, none⟩) (by simp <;> omega)).trans (by simp [go_sem])); have zz : w2.heap.size < w3.heap.size := (by have := hb.size; (try simp at this); omega); have zy := zz
    have hB : Below w2.heap.size w2 w3 := by (repeat (first | exact Below.refl _ _ | assumption | refine Below.drew ?_ | refine up_drewN ?_ _ | refine up_alloc ?_ _ | refine up_set ?_ _ _ (by first | exact Nat.le_refl _ | (simp; done) | (simp; omega) | omega) | refine up_trans ?_ (by assumption)))
    replace yc := up_c hB yz yc
    replace yf := up_f hB yz yf
    replace yz := Nat.lt_of_lt_of_le yz hB.size
    replace hW := up_trans hW hB
    have HOL := Lib.hid (fun g hg => (HO.out.lt g hg).2)
    replace HO := Lib.hid (own_up HO.out hB)
    have sw3 := hB.size
    clear hb hB hh L xc xf xz zy
    obtain ⟨RA, rc, rfl, _, _⟩ := (RdL.of_own (f := stC) ro).form
    obtain ⟨b2, o2, he2, hb2, hc2⟩ := RdL.cells stC_len (RdL.of_own (f := stC) ro) (k := tn) (by omega)
    subst he2
    have r0 := hc2 0 _ rfl
    simp only [Nat.mul_one, Nat.add_zero] at r0
    rw [← getD_at o [] tn] at r0
    have hbl := own_lt ro (Nat.le_refl _) b2 rfl
    have ne5 : ¬ b2 = w.heap.size + 1 := by simp at hbl; omega
    have ne6 : ¬ w.heap.size + 1 = b2 := fun e => ne5 e.symm
    have ne7 : ¬ b2 = w2.heap.size := by simp at hbl; omega
    have ne8 : ¬ w2.heap.size = b2 := fun e => ne7 e.symm
    clear hbl
    rw [hol] at *
    generalize o.getD tn [] = x at *
    go_wp2_with fail
    go_region
    all_goals
      go_wp2_with fail
      refine bodyPost_ret (v := .tuple #[.agg #[.slice A2 ms.length c2, .int .i64 tn], S x, .bool true]) (by simp [results, Tryz.results81, go_sem, yc]) rfl ⟨_, rfl, ?_, by (repeat (first | exact Below.refl _ _ | assumption | refine Below.drew ?_ | refine up_drewN ?_ _ | refine up_alloc ?_ _ | refine up_set ?_ _ _ (by first | exact Nat.le_refl _ | (simp; done) | (simp; omega) | omega) | refine up_trans ?_ (by assumption)))⟩
      exact own_base (own_up (own_set (own_set (own_setn HO.out ⟨w2.heap.size, 1, none⟩ (.int .i64 tn) (fun g hg => by have := HOL.out g hg; simp; omega)) ⟨w.heap.size + 1, 0, none⟩ (.slice A2 ms.length c2) (by simp)) ⟨w.heap.size + 1, 1, none⟩ (.int .i64 tn) (by simp)) (Below.drew (Below.refl _ _))) (by omega)

end Go.Proofs.YtbjlkdenkmbepaaGreatDoor
