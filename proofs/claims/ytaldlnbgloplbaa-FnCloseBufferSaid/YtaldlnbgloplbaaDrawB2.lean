/- What is proved here: contracts of the drawing of open files, names and texts. No condition but that the code is a slice of bytes. -/
import Derived.Test.YtaldlnbgloplbaaDrawB
namespace Go.Proofs.Ytaldlnbgloplbaa
open Go.RowKit

def DrawBufsPost (w : World) (e : Ending) (w' : World) : Prop := ∃ v bs, e = .returned v ∧ RdB w' v bs ∧ Sm 8 bs ∧ Below w.heap.size w w'
def DrawBufs1Post (w : World) (e : Ending) (w' : World) : Prop := ∃ v bs nm, e = .returned (.tuple #[v, S nm]) ∧ RdB w' v bs ∧ Sm 8 bs ∧ nm.length ≤ 130 ∧ Below w.heap.size w w'
def DrawBufs2Post (w : World) (e : Ending) (w' : World) : Prop := ∃ v bs nm s, e = .returned (.tuple #[v, S nm, S s]) ∧ RdB w' v bs ∧ Sm 8 bs ∧ nm.length ≤ 130 ∧ s.length ≤ 130 ∧ Below w.heap.size w w'
def DrawBufs3Post (w : World) (e : Ending) (w' : World) : Prop := ∃ (v : Value) (bs : List Bf) (nm : List UInt8) (a c : Int) (t : List UInt8), e = .returned (.tuple #[v, S nm, .agg #[.int .i64 a, .int .i64 c, S t]]) ∧ RdB w' v bs ∧ Sm 8 bs ∧ nm.length ≤ 130 ∧ t.length ≤ 260 ∧ Below w.heap.size w w'

theorem rdB_own {w : World} {base : Nat} {v : Value} {bs : List Bf} {N : Nat} (h : Own w base 28 3 v bs.length (bs.flatMap bfC)) (hs : Sm N bs) : RdB w v bs := ⟨RdL.of_own h, hs.len⟩

def NamePost (g n : Nat) (zs : List Int) (p : Nat) (w : World) (e : Ending) (w' : World) : Prop :=
  ∃ nm : List UInt8, e = .returned (S nm) ∧ nm.length ≤ 130 ∧ (∃ q, q ≤ p + 2 ∧ Rdr w' g n zs q) ∧ w.grownBy w' (some g)
theorem RdB.set {w : World} {v : Value} {bs : List Bf} {p : Addr} {u : Value} (h : RdB w v bs) (hn : v.ownBlock = none ∨ v.ownBlock ≠ some p.block) : RdB (w.setCell p u) v bs :=
  ⟨Rd.keep h.1 (by simp [World.setCell]) fun b o hv _ => World.cell?_setCell_other w p ⟨b, o, none⟩ u (fun e => by
    rcases hn with hn | hn
    · rw [hv] at hn; cases hn
    · exact hn (by rw [hv]; first | exact congrArg (some ∘ Addr.block) e | exact congrArg (some ∘ Addr.block) e.symm)), h.2⟩
theorem RdB.grown {w w' : World} {v : Value} {bs : List Bf} {g : Nat} (h : RdB w v bs) (hb : w.grownBy w' (some g)) (hn : v.ownBlock = none ∨ v.ownBlock ≠ some g) : RdB w' v bs := ⟨Rd.grown h.1 hb hn, h.2⟩

set_option maxRecDepth 100000 in
set_option maxHeartbeats 1000000 in
theorem l20Name_any (g n : Nat) (zs : List Int) (p : Nat) (v : Value) (bs : List Bf) (w : World) (hr : Rdr w g n zs p) (hp : p < 900000000) (h : RdB w v bs) (hs : Sm 8 bs) (hn : v.ownBlock = none ∨ v.ownBlock ≠ some g) :
    Calls Try.prog 61 #[.pointer (some ⟨g, 0, none⟩), v] w (NamePost g n zs p w) := by
  have hW := World.grownBy.refl w (some g)
  have hg := hr.lt
  have H := Lib.hid h
  obtain ⟨A, c, rfl, hm, hcc⟩ := h.1.form
  have hb8 := hs.1
  have HN := Lib.hid hn
  clear h hcc hm hn
  have tail : ∀ (q : Nat) (w1 : World), Rdr w1 g n zs q → q ≤ p + 1 → w.grownBy w1 (some g) → ∀ (x : Int), 0 ≤ x → x < 4 → True := fun _ _ _ _ _ _ _ _ => trivial
  clear tail
  by_cases hl0 : bs.length = 0
  · have hl1 : decide (0 < bs.length) = false := decide_eq_false (by omega)
    have hl2 : decide ((0 : Int) < bs.length) = false := decide_eq_false (by omega)
    have hl3 : ¬ (0 < bs.length) := by omega
    clear hl0
    go_enter Try.func61, Try.ntmps61
    go_wp2_with fail
    refine (pick_any _ _ _ _ _ _ (hr.up (by (repeat (first | exact Below.refl _ _ | assumption | refine Below.drew ?_ | refine up_drewN ?_ _ | refine up_alloc ?_ _ | refine up_set ?_ _ _ (by first | exact Nat.le_refl _ | (simp; done) | (simp; omega) | omega) | refine up_trans ?_ (by assumption))))) (by omega)).mono ?_
    rintro e w1 ⟨x1, rfl, h1, h2, hr1, hb⟩
    have hx := h1 (by omega)
    have hG : w.grownBy w1 (some g) := (by (repeat (first | exact World.grownBy.refl _ _ | assumption | refine gb_drew ?_ | refine gb_drewN ?_ _ | refine gb_alloc ?_ _ | refine gb_here ?_ rfl _ | refine gb_set ?_ _ _ (by first | exact Nat.le_refl _ | (simp; done) | (simp; omega) | omega) | refine gb_trans ?_ (by assumption) | refine gb_below ?_ (by assumption)))); have sw1 := hG.size; replace hW := gb_trans hW hG; clear hG
    have lc : ∀ o, w1.cell? ⟨w.heap.size, o, none⟩ = #[S [97], S [110, 101, 119], S [], S [97, 32, 98]][o]? := gup_c hb (by simp <;> omega) (by omega) (fun o => by simp [go_sem]); have lf : ∀ o, w1.frozen? ⟨w.heap.size, o, none⟩ = false := gup_f hb (by simp <;> omega) (by omega) (fun o => by simp [go_sem]); have lz : w.heap.size < w1.heap.size := (by have := hb.size; (try simp at this); omega); have ly := lz
    obtain ⟨nm, hnm, hnl⟩ : ∃ nm : List UInt8, (#[S [97], S [110, 101, 119], S [], S [97, 32, 98]] : Array Value)[x1.toNat]? = some (S nm) ∧ nm.length ≤ 13 := by
      rcases (show x1 = 0 ∨ x1 = 1 ∨ x1 = 2 ∨ x1 = 3 by omega) with rfl | rfl | rfl | rfl
      all_goals exact ⟨_, rfl, by decide⟩
    have lc1 := (lc x1.toNat).trans hnm
    clear hb h1 h2 lc lf ly hnm hr
    go_wp2_with fail
    go_ret
    exact ⟨nm, rfl, by omega, ⟨_, by omega, hr1⟩, hW⟩
  · have hl1 : decide (0 < bs.length) = true := decide_eq_true (by omega)
    have hl2 : decide ((0 : Int) < bs.length) = true := decide_eq_true (by omega)
    have hl3 : 0 < bs.length := by omega
    clear hl0
    go_enter Try.func61, Try.ntmps61
    go_wp2_with fail
    refine (pick_any _ _ _ _ _ _ hr (by omega)).mono ?_
    rintro e w1 ⟨x1, rfl, h1, h2, hr1, hb⟩
    have hx := h1 (by omega)
    have H1 := Lib.hid (H.out.grown hb HN.out)
    have hG : w.grownBy w1 (some g) := (by (repeat (first | exact World.grownBy.refl _ _ | assumption | refine gb_drew ?_ | refine gb_drewN ?_ _ | refine gb_alloc ?_ _ | refine gb_here ?_ rfl _ | refine gb_set ?_ _ _ (by first | exact Nat.le_refl _ | (simp; done) | (simp; omega) | omega) | refine gb_trans ?_ (by assumption) | refine gb_below ?_ (by assumption)))); have sw1 := hG.size; replace hW := gb_trans hW hG; clear hG
    clear hb h1 h2 hr H
    by_cases hx0 : 0 < x1
    · go_wp2_with fail
      refine (pick_any _ _ _ _ _ _ hr1 (by omega)).mono ?_
      rintro e w2 ⟨x2, rfl, h1, h2, hr2, hb⟩
      have hx2 := h1 (by omega)
      have H2 := Lib.hid (H1.out.grown hb HN.out)
      have hG : w1.grownBy w2 (some g) := (by (repeat (first | exact World.grownBy.refl _ _ | assumption | refine gb_drew ?_ | refine gb_drewN ?_ _ | refine gb_alloc ?_ _ | refine gb_here ?_ rfl _ | refine gb_set ?_ _ _ (by first | exact Nat.le_refl _ | (simp; done) | (simp; omega) | omega) | refine gb_trans ?_ (by assumption) | refine gb_below ?_ (by assumption)))); have sw2 := hG.size; replace hW := gb_trans hW hG; clear hG
      clear hb h1 h2 hr1 H1
      obtain ⟨j, rfl⟩ : ∃ j : Nat, x2 = j := ⟨x2.toNat, by omega⟩
      have hj : j < bs.length := by omega
      obtain ⟨b, o, rfl, hb, c0, c1, _⟩ := H2.out.cells hj
      have hnl := (hs.2 _ (List.getElem_mem hj)).1
      go_wp2_with fail
      go_ret
      exact ⟨_, rfl, hnl, ⟨_, by omega, hr2⟩, hW⟩
    · go_wp2_with fail
      refine (pick_any _ _ _ _ _ _ (hr1.up (by (repeat (first | exact Below.refl _ _ | assumption | refine Below.drew ?_ | refine up_drewN ?_ _ | refine up_alloc ?_ _ | refine up_set ?_ _ _ (by first | exact Nat.le_refl _ | (simp; done) | (simp; omega) | omega) | refine up_trans ?_ (by assumption))))) (by omega)).mono ?_
      rintro e w2 ⟨x2, rfl, h1, h2, hr2, hb⟩
      have hx2 := h1 (by omega)
      have hG : w1.grownBy w2 (some g) := (by (repeat (first | exact World.grownBy.refl _ _ | assumption | refine gb_drew ?_ | refine gb_drewN ?_ _ | refine gb_alloc ?_ _ | refine gb_here ?_ rfl _ | refine gb_set ?_ _ _ (by first | exact Nat.le_refl _ | (simp; done) | (simp; omega) | omega) | refine gb_trans ?_ (by assumption) | refine gb_below ?_ (by assumption)))); have sw2 := hG.size; replace hW := gb_trans hW hG; clear hG
      have lc : ∀ o, w2.cell? ⟨w1.heap.size, o, none⟩ = #[S [97], S [110, 101, 119], S [], S [97, 32, 98]][o]? := gup_c hb (by simp <;> omega) (by omega) (fun o => by simp [go_sem]); have lf : ∀ o, w2.frozen? ⟨w1.heap.size, o, none⟩ = false := gup_f hb (by simp <;> omega) (by omega) (fun o => by simp [go_sem]); have lz : w1.heap.size < w2.heap.size := (by have := hb.size; (try simp at this); omega); have ly := lz
      obtain ⟨nm, hnm, hnl⟩ : ∃ nm : List UInt8, (#[S [97], S [110, 101, 119], S [], S [97, 32, 98]] : Array Value)[x2.toNat]? = some (S nm) ∧ nm.length ≤ 13 := by
        rcases (show x2 = 0 ∨ x2 = 1 ∨ x2 = 2 ∨ x2 = 3 by omega) with rfl | rfl | rfl | rfl
        all_goals exact ⟨_, rfl, by decide⟩
      have lc1 := (lc x2.toNat).trans hnm
      clear hb h1 h2 lc lf ly hnm hr1
      go_wp2_with fail
      go_ret
      exact ⟨nm, rfl, by omega, ⟨_, by omega, hr2⟩, hW⟩

theorem bytes_cut_form {w : World} {B n : Nat} {v : Value} {zs : List Int} (h : Bytes w B v n zs) : ∃ A c, v = .slice A n c := by
  obtain ⟨_, _, A, c, rfl, _⟩ := h
  exact ⟨A, c, rfl⟩
theorem own_ne_g {w : World} {base size n g : Nat} {e : TypeId} {v : Value} {xs : List Value} (h : Own w base e size v n xs) (hg : g < base) : v.ownBlock = none ∨ v.ownBlock ≠ some g := by
  cases hv : v.ownBlock with
  | none => exact .inl rfl
  | some k =>
    refine .inr fun e => ?_
    have := (h.lt k hv).1
    injection e with e
    omega

def NamedPost (g : Nat) (w : World) (e : Ending) (w' : World) : Prop :=
  ∃ v bs nm, e = .returned (.tuple #[v, S nm]) ∧ RdB w' v bs ∧ Sm 8 bs ∧ nm.length ≤ 130 ∧ w.grownBy w' (some g)
theorem l20Named_any (g n : Nat) (zs : List Int) (p : Nat) (w : World) (hr : Rdr w g n zs p) (hp : p < 10000000) :
    Calls Try.prog 56 #[.pointer (some ⟨g, 0, none⟩)] w (NamedPost g w) := by
  have hW := World.grownBy.refl w (some g)
  have hg := hr.lt
  go_enter Try.func56, Try.ntmps56
  go_wp2_with fail
  refine (l20Buffers_any _ _ _ _ _ _ hr (by omega)).mono ?_
  rintro e w1 ⟨v, bs, rfl, ho, hs, ⟨q, hq, hr1⟩, hb⟩
  have hG : w.grownBy w1 (some g) := (by (repeat (first | exact World.grownBy.refl _ _ | assumption | refine gb_drew ?_ | refine gb_drewN ?_ _ | refine gb_alloc ?_ _ | refine gb_here ?_ rfl _ | refine gb_set ?_ _ _ (by first | exact Nat.le_refl _ | (simp; done) | (simp; omega) | omega) | refine gb_trans ?_ (by assumption) | refine gb_below ?_ (by assumption)))); have sw1 := hG.size; replace hW := gb_trans hW hG; clear hG
  have hn := own_ne_g ho hg
  have H := Lib.hid (rdB_own ho hs)
  clear hb hr ho
  go_wp2_with fail
  refine (l20Name_any _ _ _ _ _ bs _ hr1 (by omega) H.out hs hn).mono ?_
  rintro e w2 ⟨nm, rfl, hnl, -, hb⟩
  have H2 := Lib.hid (H.out.grown hb hn)
  have hG : w1.grownBy w2 (some g) := (by (repeat (first | exact World.grownBy.refl _ _ | assumption | refine gb_drew ?_ | refine gb_drewN ?_ _ | refine gb_alloc ?_ _ | refine gb_here ?_ rfl _ | refine gb_set ?_ _ _ (by first | exact Nat.le_refl _ | (simp; done) | (simp; omega) | omega) | refine gb_trans ?_ (by assumption) | refine gb_below ?_ (by assumption)))); have sw2 := hG.size; replace hW := gb_trans hW hG; clear hG
  clear hb hr1 H hn
  go_wp2_with fail
  go_ret2
  exact ⟨_, bs, nm, rfl, H2.out, hs, hnl, hW⟩

theorem drawBuffersValid_any (v : Value) (n : Nat) (zs : List Int) (w : World) (h : Bytes w w.heap.size v n zs) :
    Calls Try.prog 11 #[v] w (DrawBufsPost w) := by
  have hW := Below.refl w.heap.size w
  go_enter Try.func11, Try.ntmps11
  go_wp2_with fail
  refine (open_any v n zs _ h).mono ?_
  rintro e w1 ⟨g, m, ys, rfl, hr, hb, hg⟩
  have hB : Below w.heap.size w w1 := (by (repeat (first | exact Below.refl _ _ | assumption | refine Below.drew ?_ | refine up_drewN ?_ _ | refine up_alloc ?_ _ | refine up_set ?_ _ _ (by first | exact Nat.le_refl _ | (simp; done) | (simp; omega) | omega) | refine up_trans ?_ (by assumption)))); have sw1 := hB.size; replace hW := up_trans hW hB; clear hB
  clear hb h
  have hgz := hr.lt
  go_wp2_with fail
  refine (l20Buffers_any _ _ _ _ _ _ hr (by omega)).mono ?_
  rintro e w2 ⟨u, bs, rfl, ho, hs, -, hb⟩
  replace hW := below_of_gb (gb_trans (gb_below (World.grownBy.refl _ _) hW) hb) hg
  have H := Lib.hid (rdB_own ho hs)
  clear hb hr ho
  go_wp2_with fail
  go_ret
  exact ⟨_, bs, rfl, H.out, hs, hW⟩


theorem drawSaveBuffer_any (v : Value) (n : Nat) (zs : List Int) (w : World) (h : Bytes w w.heap.size v n zs) :
    Calls Try.prog 30 #[v] w (DrawBufs1Post w) := by
  have hW := Below.refl w.heap.size w
  go_enter Try.func30, Try.ntmps30
  go_wp2_with fail
  refine (open_any v n zs _ h).mono ?_
  rintro e w1 ⟨g, m, ys, rfl, hr, hb, hg⟩
  have hB : Below w.heap.size w w1 := (by (repeat (first | exact Below.refl _ _ | assumption | refine Below.drew ?_ | refine up_drewN ?_ _ | refine up_alloc ?_ _ | refine up_set ?_ _ _ (by first | exact Nat.le_refl _ | (simp; done) | (simp; omega) | omega) | refine up_trans ?_ (by assumption)))); have sw1 := hB.size; replace hW := up_trans hW hB; clear hB
  clear hb h
  have hgz := hr.lt
  go_wp2_with fail
  refine (l20Named_any _ _ _ _ _ hr (by omega)).mono ?_
  rintro e w2 ⟨u, bs, nm, rfl, H2, hs, hnl, hb⟩
  replace hW := below_of_gb (gb_trans (gb_below (World.grownBy.refl _ _) hW) hb) hg
  have H := Lib.hid H2
  clear hb hr H2
  go_wp2_with fail
  go_ret2
  exact ⟨_, bs, nm, rfl, H.out, hs, hnl, hW⟩

theorem drawCloseBuffer_any (v : Value) (n : Nat) (zs : List Int) (w : World) (h : Bytes w w.heap.size v n zs) :
    Calls Try.prog 26 #[v] w (DrawBufs1Post w) := by
  have hW := Below.refl w.heap.size w
  go_enter Try.func26, Try.ntmps26
  go_wp2_with fail
  refine (open_any v n zs _ h).mono ?_
  rintro e w1 ⟨g, m, ys, rfl, hr, hb, hg⟩
  have hB : Below w.heap.size w w1 := (by (repeat (first | exact Below.refl _ _ | assumption | refine Below.drew ?_ | refine up_drewN ?_ _ | refine up_alloc ?_ _ | refine up_set ?_ _ _ (by first | exact Nat.le_refl _ | (simp; done) | (simp; omega) | omega) | refine up_trans ?_ (by assumption)))); have sw1 := hB.size; replace hW := up_trans hW hB; clear hB
  clear hb h
  have hgz := hr.lt
  go_wp2_with fail
  refine (l20Named_any _ _ _ _ _ hr (by omega)).mono ?_
  rintro e w2 ⟨u, bs, nm, rfl, H2, hs, hnl, hb⟩
  replace hW := below_of_gb (gb_trans (gb_below (World.grownBy.refl _ _) hW) hb) hg
  have H := Lib.hid H2
  clear hb hr H2
  go_wp2_with fail
  go_ret2
  exact ⟨_, bs, nm, rfl, H.out, hs, hnl, hW⟩

theorem drawOpenBuffer_any (v : Value) (n : Nat) (zs : List Int) (w : World) (h : Bytes w w.heap.size v n zs) :
    Calls Try.prog 15 #[v] w (DrawBufs2Post w) := by
  have hW := Below.refl w.heap.size w
  go_enter Try.func15, Try.ntmps15
  go_wp2_with fail
  refine (open_any v n zs _ h).mono ?_
  rintro e w1 ⟨g, m, ys, rfl, hr, hb, hg⟩
  have hB : Below w.heap.size w w1 := (by (repeat (first | exact Below.refl _ _ | assumption | refine Below.drew ?_ | refine up_drewN ?_ _ | refine up_alloc ?_ _ | refine up_set ?_ _ _ (by first | exact Nat.le_refl _ | (simp; done) | (simp; omega) | omega) | refine up_trans ?_ (by assumption)))); have sw1 := hB.size; replace hW := up_trans hW hB; clear hB
  clear hb h
  have hgz := hr.lt
  go_wp2_with fail
  refine (l20Buffers_any _ _ _ _ _ _ hr (by omega)).mono ?_
  rintro e w2 ⟨u, bs, rfl, ho, hs, ⟨q, hq, hr2⟩, hb⟩
  have hV : w.grownBy w2 (some g) := gb_trans (gb_below (World.grownBy.refl _ _) hW) hb
  have hn := own_ne_g ho hgz
  have H := Lib.hid (rdB_own ho hs)
  have sw2 := hb.size
  clear hb hr ho hW
  go_wp2_with fail
  refine (pick_any _ _ _ _ _ _ (hr2.up (by (repeat (first | exact Below.refl _ _ | assumption | refine Below.drew ?_ | refine up_drewN ?_ _ | refine up_alloc ?_ _ | refine up_set ?_ _ _ (by first | exact Nat.le_refl _ | (simp; done) | (simp; omega) | omega) | refine up_trans ?_ (by assumption))))) (by omega)).mono ?_
  rintro e w3 ⟨x1, rfl, h1, h2, hr3, hb⟩
  have hx := h1 (by omega)
  have lc : ∀ o, w3.cell? ⟨w2.heap.size, o, none⟩ = #[S [110, 101, 119], S [97], S [], S [97, 32, 98], S [98]][o]? := gup_c hb (by simp <;> omega) (by omega) (fun o => by simp [go_sem]); have lf : ∀ o, w3.frozen? ⟨w2.heap.size, o, none⟩ = false := gup_f hb (by simp <;> omega) (by omega) (fun o => by simp [go_sem]); have lz : w2.heap.size < w3.heap.size := (by have := hb.size; (try simp at this); omega); have ly := lz
  have H3 := Lib.hid ((H.out.up (by (repeat (first | exact Below.refl _ _ | assumption | refine Below.drew ?_ | refine up_drewN ?_ _ | refine up_alloc ?_ _ | refine up_set ?_ _ _ (by first | exact Nat.le_refl _ | (simp; done) | (simp; omega) | omega) | refine up_trans ?_ (by assumption))))).grown hb hn)
  replace hV := gb_trans (gb_alloc hV _) hb
  obtain ⟨nm, hnm, hnl⟩ : ∃ nm : List UInt8, (#[S [110, 101, 119], S [97], S [], S [97, 32, 98], S [98]] : Array Value)[x1.toNat]? = some (S nm) ∧ nm.length ≤ 13 := by
    rcases (show x1 = 0 ∨ x1 = 1 ∨ x1 = 2 ∨ x1 = 3 ∨ x1 = 4 by omega) with rfl | rfl | rfl | rfl | rfl
    all_goals exact ⟨_, rfl, by decide⟩
  have lc1 := (lc x1.toNat).trans hnm
  clear hb h1 h2 lc lf ly hnm hr2 H
  go_wp2_with fail
  refine (l20Text_any _ _ _ _ _ _ hr3 (by omega)).mono ?_
  rintro e w4 ⟨s, rfl, hsl, -, hb⟩
  have H4 := Lib.hid (H3.out.grown hb hn)
  replace hV := gb_trans hV hb
  have HV := Lib.hid hV
  clear hb hr3 H3 hn hV lc1
  go_wp2_with fail
  go_ret3
  exact ⟨_, bs, nm, s, rfl, H4.out, hs, by omega, hsl, below_of_gb HV.out hg⟩

set_option maxRecDepth 100000 in
set_option maxHeartbeats 1000000 in
theorem drawChangeBuffer_any (v : Value) (n : Nat) (zs : List Int) (w : World) (h : Bytes w w.heap.size v n zs) :
    Calls Try.prog 35 #[v] w (DrawBufs3Post w) := by
  have hW := Below.refl w.heap.size w
  go_enter Try.func35, Try.ntmps35
  go_wp2_with fail
  refine (open_any v n zs _ (h.to (by (repeat (first | exact Below.refl _ _ | assumption | refine Below.drew ?_ | refine up_drewN ?_ _ | refine up_alloc ?_ _ | refine up_set ?_ _ _ (by first | exact Nat.le_refl _ | (simp; done) | (simp; omega) | omega) | refine up_trans ?_ (by assumption)))))).mono ?_
  rintro e w1 ⟨g, m, ys, rfl, hr, hb, hg⟩
  have hB : Below w.heap.size w w1 := (by (repeat (first | exact Below.refl _ _ | assumption | refine Below.drew ?_ | refine up_drewN ?_ _ | refine up_alloc ?_ _ | refine up_set ?_ _ _ (by first | exact Nat.le_refl _ | (simp; done) | (simp; omega) | omega) | refine up_trans ?_ (by assumption)))); have sw1 := hB.size; replace hW := up_trans hW hB; clear hB
  have xc : ∀ o, w1.cell? ⟨w.heap.size, o, none⟩ = #[.int .i64 0, .int .i64 0, .string ⟨#[]⟩][o]? := (fun o => (hb.cell (p := ⟨w.heap.size, o, none⟩) (by simp <;> omega)).trans (by simp [go_sem])); have xf : ∀ o, w1.frozen? ⟨w.heap.size, o, none⟩ = false := (fun o => (hb.frozen (p := ⟨w.heap.size, o, none⟩) (by simp <;> omega)).trans (by simp [go_sem])); have xz : w.heap.size < w1.heap.size := (by have := hb.size; (try simp at this); omega); have xy := xz
  simp at hg
  clear hb h
  have hgz := hr.lt
  go_wp2_with fail
  refine (l20Buffers_any _ _ _ _ _ _ hr (by omega)).mono ?_
  rintro e w2 ⟨u, bs, rfl, ho, hs, ⟨q, hq, hr2⟩, hb⟩
  have hV : w.grownBy w2 (some g) := gb_trans (gb_below (World.grownBy.refl _ _) hW) hb
  have hn := own_ne_g ho hgz
  have hnx := own_ne_g ho xz
  have H := Lib.hid (rdB_own ho hs)
  replace xc := gup_c hb xz (by omega) xc
  replace xf := gup_f hb xz (by omega) xf
  replace xz := Nat.lt_of_lt_of_le xz hb.size
  clear hb hr ho hW
  go_wp2_with fail
  refine (l20Name_any _ _ _ _ _ bs _ hr2 (by omega) H.out hs hn).mono ?_
  rintro e w3 ⟨nm, rfl, hnl, ⟨q3, hq3, hr3⟩, hb⟩
  have H3 := Lib.hid (H.out.grown hb hn)
  replace hV := gb_trans hV hb
  replace xc := gup_c hb xz (by omega) xc
  replace xf := gup_f hb xz (by omega) xf
  replace xz := Nat.lt_of_lt_of_le xz hb.size
  clear hb hr2 H
  obtain ⟨A, c, rfl, hm, _⟩ := H3.out.1.form
  have hb8 := hs.1
  clear hm
  go_wp2_with fail
  go_loop [8, 9] (fun s i => ∃ (k : Nat) (t : List UInt8), k ≤ bs.length ∧ i = .int .i64 k ∧ s = S t ∧ t.length ≤ 130) (fun _ i => bs.length - (intOf i).toNat)
  case atStart => exact ⟨0, [97, 98, 99], by omega, rfl, rfl, by decide⟩
  case round =>
    obtain ⟨k, t, hk, rfl, rfl, ht⟩ := hrel
    by_cases hlt : k < bs.length
    · have i1 : (0 : Int) ≤ (k : Int) := by omega
      have i2 : (k : Int) < (bs.length : Int) := by omega
      obtain ⟨b, o, rfl, hb, c0, c1, c2⟩ := H3.out.cells hlt
      have hsk := (hs.2 _ (List.getElem_mem hlt)).2.1
      rcases hc : (bs[k].name == nm) with _ | _
      all_goals
        clear xc xf
        go_wp2_with fail
        go_round
        case rel => exact ⟨k + 1, _, by omega, by go_num, rfl, by omega⟩
        case measure => simp [intOf]; omega
    · obtain rfl : k = bs.length := by omega
      go_wp2_with fail
      refine (l20Change_any _ _ _ _ _ t _ hr3 (by omega) ht).mono ?_
      rintro e w4 ⟨a, c', t', rfl, ht', -, hb⟩
      have H4 := Lib.hid (H3.out.grown hb hn)
      replace hV := gb_trans hV hb
      replace xc := gup_c hb xz (by omega) xc
      replace xf := gup_f hb xz (by omega) xf
      replace xz := Nat.lt_of_lt_of_le xz hb.size
      have HV := Lib.hid hV
      clear hb hr3 H3 hn hV
      go_wp2_with fail
      refine bodyPost_ret (v := .tuple #[_, S nm, .agg #[.int .i64 a, .int .i64 c', S t']]) (by simp [results, Try.results35, go_sem, xc]; rfl) rfl ⟨_, bs, nm, a, c', t', rfl, ?_, hs, hnl, ht', ?_⟩
      · exact ((H4.out.set hnx).set hnx).set hnx
      · have hF := below_of_gb HV.out (by omega)
        (repeat (first | exact Below.refl _ _ | assumption | refine Below.drew ?_ | refine up_drewN ?_ _ | refine up_alloc ?_ _ | refine up_set ?_ _ _ (by first | exact Nat.le_refl _ | (simp; done) | (simp; omega) | omega) | refine up_trans ?_ (by assumption)))

end Go.Proofs.Ytaldlnbgloplbaa
