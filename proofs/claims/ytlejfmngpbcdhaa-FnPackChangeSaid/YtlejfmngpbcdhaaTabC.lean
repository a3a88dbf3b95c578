/- What is proved here: the program's TableChange where the table is changed. No condition. -/
import Derived.Test.YtlejfmngpbcdhaaTabB
import Derived.Deep.RegionHeld3
import Derived.Deep.DrawnRows
namespace Go.Proofs.Ytlejfmngpbcdhaa
open Go.RowKit
set_option linter.unusedVariables false
set_option linter.unusedSimpArgs false
attribute [local go_sem ↓] Go.wp_at_zero Go.wp_at_succ

theorem cutA_len (t : Int) : ∀ ps : List Pc, (cutA t ps).length ≤ ps.length
  | [] => Nat.le_refl _
  | p :: l => by
    have := cutA_len (t - p.sz) l
    unfold cutA
    rw [List.length_append, List.length_cons]
    split <;> simp <;> omega
theorem cutB_len (t : Int) : ∀ ps : List Pc, (cutB t ps).length ≤ ps.length
  | [] => Nat.le_refl _
  | p :: l => by
    have := cutB_len (t - p.sz) l
    unfold cutB
    rw [List.length_append, List.length_cons]
    split <;> simp <;> omega
theorem putP_len (m p : List UInt8) : (putP m p).length ≤ 1 := by unfold putP; split <;> simp
theorem own_pieces {w : World} {B n : Nat} {v : Value} {xs ys : List Pc} (h : Own w B 79 3 v n (xs.flatMap pcC ++ ys.flatMap pcC)) (hn : n = (xs ++ ys).length) : OwnP w B v (xs ++ ys) := by
  rw [OwnP, List.flatMap_append]
  rw [hn] at h
  exact h

theorem is_set {w : World} {b k : Nat} {C : Array Value} (h : Is w b C) (hk : k < C.size) (u : Value) : Is (w.setCell ⟨b, k, none⟩ u) b (C.setIfInBounds k u) := by
  refine ⟨fun o => ?_, fun o => (World.frozen?_setCells b [u] k w _).trans (h.2 o)⟩
  by_cases e : o = k
  · subst e
    rw [World.cell?_setCell_same w _ u ((h.1 o).trans (Array.getElem?_eq_getElem hk))]
    simp [hk]
  · rw [World.cell?_setCell_other w _ _ _ (fun e2 => e (by injection e2 with _ e3 _; exact e3.symm)), h.1 o, Array.getElem?_setIfInBounds_ne (Ne.symm e)]
theorem is_far {w : World} {b i k : Nat} {C : Array Value} (h : Is w i C) (hn : i ≠ b) (u : Value) : Is (w.setCell ⟨b, k, none⟩ u) i C := h.of_block (Below.heap_setCell w ⟨b, k, none⟩ u i hn)
theorem is_grown {a b : World} {row : Option Nat} {i : Nat} {C : Array Value} (h : Is a i C) (hg : a.grownBy b row) (hz : i < a.heap.size) (hn : some i ≠ row) : Is b i C := ⟨fun o => (farC hg ⟨i, o, none⟩ hz hn).trans (h.1 o), fun o => (farF hg ⟨i, o, none⟩ hz hn).trans (h.2 o)⟩
theorem is_alloc {w : World} {i : Nat} {C : Array Value} (h : Is w i C) (hz : i < w.heap.size) (z : Obj) : Is (w.alloc z) i C := h.up hz (up_alloc (Below.refl _ _) z)
/-- the boxes of a change of a table: the table, the change, the result, and the new table in block o. -/
def ChS (w wx : World) (X D Y : Array Value) (o : Nat) (O : Array Value) : Prop := Is wx w.heap.size X ∧ Is wx (w.heap.size + 1) D ∧ Is wx (w.heap.size + 2) Y ∧ Is wx o O ∧ w.heap.size + 3 ≤ o ∧ o < wx.heap.size ∧ Below w.heap.size w wx
section
variable {w a b : World} {X D Y O : Array Value} {o : Nat}
theorem ChS.alloc (h : ChS w a X D Y o O) (z : Obj) : ChS w (a.alloc z) X D Y o O := by
  obtain ⟨h1, h2, h3, h4, h5, h6, h7⟩ := h
  exact ⟨is_alloc h1 (by omega) z, is_alloc h2 (by omega) z, is_alloc h3 (by omega) z, is_alloc h4 h6 z, h5, by simp; omega, up_alloc h7 z⟩
theorem ChS.grown (h : ChS w a X D Y o O) {v : Value} {n : Nat} {xs : List Value} {B : Nat} (ho : Own a B 79 3 v n xs) (hB : o < B) (hg : a.grownBy b v.ownBlock) : ChS w b X D Y o O := by
  obtain ⟨h1, h2, h3, h4, h5, h6, h7⟩ := h
  have ne : ∀ i, i ≤ o → some i ≠ v.ownBlock := fun i hi e => by have := (ho.lt i e.symm).1; omega
  exact ⟨is_grown h1 hg (by omega) (ne _ (by omega)), is_grown h2 hg (by omega) (ne _ (by omega)), is_grown h3 hg (by omega) (ne _ (by omega)), is_grown h4 hg h6 (ne _ (by omega)), h5, Nat.lt_of_lt_of_le h6 hg.size, up_grown h7 hg fun k hk => by have := (ho.lt k hk).1; omega⟩
theorem ChS.put (h : ChS w a X D Y o O) {k : Nat} (hk : k < O.size) (u : Value) : ChS w (a.setCell ⟨o, k, none⟩ u) X D Y o (O.setIfInBounds k u) := by
  obtain ⟨h1, h2, h3, h4, h5, h6, h7⟩ := h
  exact ⟨is_far h1 (by omega) u, is_far h2 (by omega) u, is_far h3 (by omega) u, is_set h4 hk u, h5, by simpa [World.setCell] using h6, up_set h7 _ u (by show w.heap.size ≤ o; omega)⟩
theorem ChS.up (h : ChS w a X D Y o O) (hb : Below a.heap.size a b) : ChS w b X D Y o O := by
  obtain ⟨h1, h2, h3, h4, h5, h6, h7⟩ := h
  exact ⟨h1.up (by omega) hb, h2.up (by omega) hb, h3.up (by omega) hb, h4.up h6 hb, h5, Nat.lt_of_lt_of_le h6 hb.size, up_trans h7 hb⟩
end

set_option maxRecDepth 100000 in
set_option maxHeartbeats 4000000 in
theorem implTableChange_yes (f m : List UInt8) (v : Value) (ps : List Pc) (x : Ch) (w : World) (h : RdP w v ps) (hv : tbB f m ps = true) (hok : okF (tbT f m ps) x = true) (hm4 : m.length + x.p.length ≤ 400) :
    Calls Try.prog 23 #[tbAgg f m v, chAgg x] w (TcPost f (m ++ x.p) (tcP m ps x) true w) := by
  obtain ⟨-, hf, hm, -, hall, hsum⟩ := tbB_out hv
  have h1s : ∀ p ∈ ps, 1 ≤ p.sz := fun p hp' => (pcOk_in (hall p hp')).2.1
  have hcount : (ps.length : Int) ≤ 120 := by have := len_sum h1s; omega
  obtain ⟨A, c, rfl, hpl, _⟩ := h.form
  have hL := tbT_len ps hall
  have hin := okF_in hok
  have htv := tbT_tv hv
  have T := Lib.hid (fun (w' : World) (hb : Below w.heap.size w w') => implTableValid_any f m (.slice A ps.length c) ps w' (h.up hb) (by unfold maxLen; omega) (by unfold maxLen; omega))
  have W := Lib.hid (fun (w' : World) (hb : Below w.heap.size w w') => implWhole_any f m (.slice A ps.length c) ps w' (h.up hb) hall hsum (by omega) (by omega))
  have F := Lib.hid (fun w' => implFits_any (tbT f m ps) x w' htv (by omega))
  have B1 := Lib.hid (fun (w' : World) (hb : Below w.heap.size w w') => implBetween_any f m (.slice A ps.length c) ps 0 x.a w' (h.up hb) hall hsum (by omega) (by omega) (by omega) (by omega))
  have B2 := Lib.hid (fun (w' : World) (hb : Below w.heap.size w w') => implBetween_any f m (.slice A ps.length c) ps (x.a + x.c) (tbT f m ps).length w' (h.up hb) hall hsum (by omega) (by omega) (by omega) (by omega))
  rw [btw_first x.a ps 0 (by omega) h1s, Int.sub_zero] at B1
  rw [btw_rest (x.a + x.c) (tbT f m ps).length ps 0 h1s (by omega), Int.sub_zero] at B2
  rw [hv] at T
  rw [hok] at F
  have hsl : (tbT f m ps).length ≤ 120 := by omega
  clear hL
  have hla := cutA_len x.a ps
  have hlb := cutB_len (x.a + x.c) ps
  have hlp := putP_len m x.p
  unfold TcPost tcP
  have EP := Lib.hid (show putP m x.p = if x.p = [] then [] else [⟨true, m.length, x.p.length⟩] from rfl)
  generalize cutA x.a ps = xs at *
  generalize cutB (x.a + x.c) ps = ys at *
  generalize putP m x.p = pp at *
  generalize tbT f m ps = s at *
  obtain ⟨zs, hzs⟩ : ∃ z, z = xs ++ pp := ⟨_, rfl⟩
  obtain ⟨rs, hrs⟩ : ∃ z, z = zs ++ ys := ⟨_, rfl⟩
  rw [← hzs, ← hrs]
  have hlz : zs.length ≤ 121 := by rw [hzs, List.length_append]; omega
  have EZ := Lib.hid hzs
  have ER := Lib.hid hrs
  clear hzs hrs
  obtain ⟨i0, hi0, hz0, hz1, hz2⟩ := info_parts piece_info
  obtain ⟨fa, fc, fp⟩ := x
  clear h hv hok
  unfold chAgg tbAgg at *
  simp only at *
  have hadd : IntKind.i64.wrap ((m.length : Int) + (fp.length : Int)) = (m.length : Int) + (fp.length : Int) := IntWalk.i64_in _ (by omega)
  have hadd2 : IntKind.i64.wrap (fa + fc) = fa + fc := IntWalk.i64_in _ (by omega)
  have hle : ¬ (400 : Int) < (m.length : Int) + (fp.length : Int) := by omega
  go_enter Try.func23, Try.ntmps23
  go_wp2_with fail
  refine (T.out _ (by (repeat (first | exact Below.refl _ _ | assumption | refine Below.drew ?_ | refine up_drewN ?_ _ | refine up_alloc ?_ _ | refine up_set ?_ _ _ (by first | exact Nat.le_refl _ | (simp; done) | (simp; omega) | omega) | refine up_trans ?_ (by assumption))))).mono ?_
  rintro e w1 ⟨rfl, hb⟩
  have xc : ∀ o, w1.cell? ⟨w.heap.size, o, none⟩ = #[S f, S m, .slice A ps.length c][o]? := (fun o => (hb.cell (p := ⟨w.heap.size, o, none⟩) (by simp <;> omega)).trans (by simp [go_sem])); have xf : ∀ o, w1.frozen? ⟨w.heap.size, o, none⟩ = false := (fun o => (hb.frozen (p := ⟨w.heap.size, o, none⟩) (by simp <;> omega)).trans (by simp [go_sem])); have xz : w.heap.size < w1.heap.size := (by have := hb.size; (try simp at this); omega); have xy := xz
  have dc : ∀ o, w1.cell? ⟨w.heap.size + 1, o, none⟩ = #[.int .i64 fa, .int .i64 fc, S fp][o]? := (fun o => (hb.cell (p := ⟨w.heap.size + 1, o, none⟩) (by simp <;> omega)).trans (by simp [go_sem])); have df : ∀ o, w1.frozen? ⟨w.heap.size + 1, o, none⟩ = false := (fun o => (hb.frozen (p := ⟨w.heap.size + 1, o, none⟩) (by simp <;> omega)).trans (by simp [go_sem])); have dz : w.heap.size + 1 < w1.heap.size := (by have := hb.size; (try simp at this); omega); have dy := dz
  have yc : ∀ o, w1.cell? ⟨w.heap.size + 2, o, none⟩ = #[S [], S [], .slice none 0 0][o]? := (fun o => (hb.cell (p := ⟨w.heap.size + 2, o, none⟩) (by simp <;> omega)).trans (by simp [go_sem])); have yf : ∀ o, w1.frozen? ⟨w.heap.size + 2, o, none⟩ = false := (fun o => (hb.frozen (p := ⟨w.heap.size + 2, o, none⟩) (by simp <;> omega)).trans (by simp [go_sem])); have yz : w.heap.size + 2 < w1.heap.size := (by have := hb.size; (try simp at this); omega); have yy := yz
  have hW : Below w.heap.size w w1 := by (repeat (first | exact Below.refl _ _ | assumption | refine Below.drew ?_ | refine up_drewN ?_ _ | refine up_alloc ?_ _ | refine up_set ?_ _ _ (by first | exact Nat.le_refl _ | (simp; done) | (simp; omega) | omega) | refine up_trans ?_ (by assumption)))
  have hs1 : w.heap.size + 3 ≤ w1.heap.size := by omega
  clear hb T xy dy yy
  go_wp2_with fail
  refine (W.out _ (by (repeat (first | exact Below.refl _ _ | assumption | refine Below.drew ?_ | refine up_drewN ?_ _ | refine up_alloc ?_ _ | refine up_set ?_ _ _ (by first | exact Nat.le_refl _ | (simp; done) | (simp; omega) | omega) | refine up_trans ?_ (by assumption))))).mono ?_
  rintro e w2 ⟨rfl, hb⟩
  have hB : Below w1.heap.size w1 w2 := (by (repeat (first | exact Below.refl _ _ | assumption | refine Below.drew ?_ | refine up_drewN ?_ _ | refine up_alloc ?_ _ | refine up_set ?_ _ _ (by first | exact Nat.le_refl _ | (simp; done) | (simp; omega) | omega) | refine up_trans ?_ (by assumption)))); replace xc := up_c hB xz xc; replace xf := up_f hB xz xf; replace xz := Nat.lt_of_lt_of_le xz hB.size; replace dc := up_c hB dz dc; replace df := up_f hB dz df; replace dz := Nat.lt_of_lt_of_le dz hB.size; replace yc := up_c hB yz yc; replace yf := up_f hB yz yf; replace yz := Nat.lt_of_lt_of_le yz hB.size; have sw2 := hB.size; replace hW := up_trans hW hB; clear hB
  clear hb
  go_wp2_with fail
  refine (F.out _).mono ?_
  rintro e w3 ⟨rfl, hb⟩
  have hB : Below w2.heap.size w2 w3 := (by (repeat (first | exact Below.refl _ _ | assumption | refine Below.drew ?_ | refine up_drewN ?_ _ | refine up_alloc ?_ _ | refine up_set ?_ _ _ (by first | exact Nat.le_refl _ | (simp; done) | (simp; omega) | omega) | refine up_trans ?_ (by assumption)))); replace xc := up_c hB xz xc; replace xf := up_f hB xz xf; replace xz := Nat.lt_of_lt_of_le xz hB.size; replace dc := up_c hB dz dc; replace df := up_f hB dz df; replace dz := Nat.lt_of_lt_of_le dz hB.size; replace yc := up_c hB yz yc; replace yf := up_f hB yz yf; replace yz := Nat.lt_of_lt_of_le yz hB.size; have sw3 := hB.size; replace hW := up_trans hW hB; clear hB
  have hs3 : w.heap.size + 3 ≤ w3.heap.size := by omega
  clear hb
  go_wp2_with fail
  refine (B1.out _ (by (repeat (first | exact Below.refl _ _ | assumption | refine Below.drew ?_ | refine up_drewN ?_ _ | refine up_alloc ?_ _ | refine up_set ?_ _ _ (by first | exact Nat.le_refl _ | (simp; done) | (simp; omega) | omega) | refine up_trans ?_ (by assumption))))).mono ?_
  rintro e w4 ⟨u, rfl, ho, hb⟩
  obtain ⟨A4, c4, rfl, -, -⟩ := (RdL.of_own (f := pcC) (bs := xs) ho).form
  have HO := Lib.hid (own_base ho (show w3.heap.size + 1 ≤ _ by simp))
  have hs4 : w3.heap.size < w4.heap.size := by have := hb.size; simp at this; omega
  have CS := Lib.hid (show ChS w w4 #[S f, S m, .slice A ps.length c] #[.int .i64 fa, .int .i64 fc, S fp] #[S [], S [], .slice none 0 0] w3.heap.size #[S f, S (m ++ fp), .slice none 0 0] from ChS.up ⟨is_alloc ⟨xc, xf⟩ xz _, is_alloc ⟨dc, df⟩ dz _, is_alloc ⟨yc, yf⟩ yz _, new_is w3 _ _, hs3, by simp, up_alloc hW _⟩ hb)
  obtain ⟨oc, of_⟩ := CS.out.2.2.2.1
  clear hb ho xc xf dc df yc yf xz dz yz hW
  obtain ⟨dc, df⟩ := CS.out.2.1
  have EQ := Lib.hid (own_setn HO.out ⟨w3.heap.size, 2, none⟩ (.slice A4 xs.length c4) (fun g hg => by have := (HO.out.lt g hg).1; show g ≠ w3.heap.size; omega))
  have CS2 := Lib.hid (show ChS w (w4.setCell ⟨w3.heap.size, 2, none⟩ (.slice A4 xs.length c4)) #[S f, S m, .slice A ps.length c] #[.int .i64 fa, .int .i64 fc, S fp] #[S [], S [], .slice none 0 0] w3.heap.size #[S f, S (m ++ fp), .slice A4 xs.length c4] from CS.out.put (k := 2) (by simp) _)
  go_upto_if 45 with (fail)
  obtain ⟨w5, hw5⟩ : ∃ z, z = w4.setCell ⟨w3.heap.size, 2, none⟩ (.slice A4 xs.length c4) := ⟨_, rfl⟩
  rw [← hw5] at EQ CS2 ⊢
  have hs5 : w3.heap.size < w5.heap.size := CS2.out.2.2.2.2.2.1
  clear hw5 oc of_ dc df CS HO hs4
  go_cut [45] from 46 to 57 (fun t45 wx => ∃ (A5 : Option Addr) (C5 : Nat), Hid (OwnP wx (w3.heap.size + 1) (.slice A5 zs.length C5) zs) ∧ Hid (ChS w wx #[S f, S m, .slice A ps.length c] #[.int .i64 fa, .int .i64 fc, S fp] #[S [], S [], .slice none 0 0] w3.heap.size #[S f, S (m ++ fp), .slice A5 zs.length C5]))
  case first =>
    obtain ⟨⟨xc, xf⟩, ⟨dc, df⟩, -, ⟨oc, of_⟩, -⟩ := CS2.out
    by_cases hfp : fp = []
    · have hpp : pp = [] := by rw [EP.out, if_pos hfp]
      have he : fp.isEmpty = true := by rw [hfp]; rfl
      have hz : zs = xs := by rw [EZ.out, hpp, List.append_nil]
      clear hfp hpp
      rw [show (!fp.isEmpty) = false by rw [he]; rfl]
      go_wp2_with fail
      go_meet
      refine ⟨A4, c4, ?_, ?_⟩
      · rw [hz]; exact EQ
      · rw [hz]; exact CS2
    · have hpp : pp = [⟨true, m.length, fp.length⟩] := by rw [EP.out, if_neg hfp]
      have he : fp.isEmpty = false := by rw [← Bool.not_eq_true, List.isEmpty_iff]; exact hfp
      clear hfp
      have HPP := Lib.hid hpp
      clear hpp
      rw [show (!fp.isEmpty) = true by rw [he]; rfl]
      go_wp2_with (at_builtin; go_loud (
                   refine wpList_append_own_at _ rfl _ _ 46 rfl (w3.heap.size + 1) 79 i0 (.agg #[.bool false, .int .i64 0, .int .i64 0]) 3 24 Try.underlying46 hi0 hz0 hz1 hz2 rfl (by decide) _ _ _ rfl (EQ.out.alloc _) ⟨w5.heap.size, 0, none⟩ 1 1 [.bool true, .int .i64 m.length, .int .i64 fp.length] rfl rfl (cells_new _ _ _) (by intro u hu; simp at hu; rcases hu with rfl | rfl | rfl <;> rfl) (by unfold maxLen; omega) (by omega) (by simp; omega) ?_
                   intro v6 w6 how hgr _ hob
                   have HO6 := Lib.hid (show OwnP w6 (w3.heap.size + 1) v6 zs from EZ.out ▸ own_pieces (by rw [HPP.out]; simpa [pcC] using how) (by rw [HPP.out]; simp))
                   obtain ⟨A6, c6, rfl, -, -⟩ := (RdL.of_own (f := pcC) (bs := zs) HO6.out).form
                   have CS6 := Lib.hid ((CS2.out.alloc _).grown (EQ.out.alloc _) (by omega) hgr)
                   obtain ⟨-, -, -, ⟨oc6, of6⟩, -⟩ := CS6.out
                   clear how hgr hob))
      go_meet
      exact ⟨A6, c6, Lib.hid (own_setn HO6.out ⟨w3.heap.size, 2, none⟩ _ (fun g hg => by have := (HO6.out.lt g hg).1; show g ≠ w3.heap.size; omega)), Lib.hid (show ChS w (w6.setCell ⟨w3.heap.size, 2, none⟩ (.slice A6 zs.length c6)) #[S f, S m, .slice A ps.length c] #[.int .i64 fa, .int .i64 fc, S fp] #[S [], S [], .slice none 0 0] w3.heap.size #[S f, S (m ++ fp), .slice A6 zs.length c6] from CS6.out.put (k := 2) (by simp) _)⟩
  case rest =>
  clear CS2 EQ hs5
  obtain ⟨A5, C5, EQ, CS⟩ := hcut
  obtain ⟨w6, rfl⟩ : ∃ z, z = wc := ⟨_, rfl⟩
  have hs5 : w3.heap.size < w6.heap.size := CS.out.2.2.2.2.2.1
  have hW6 : Below w.heap.size w w6 := CS.out.2.2.2.2.2.2
  obtain ⟨⟨xc, xf⟩, ⟨dc, df⟩, -, ⟨oc, of_⟩, -⟩ := CS.out
  go_wp2_with fail
  refine wp_region_noPanic ?_
  refine wp_region_held_drew (S := fun w' => w'.cell? ⟨w.heap.size, 0, none⟩ = some (.string ⟨f.toArray⟩) ∧ w'.cell? ⟨w.heap.size, 1, none⟩ = some (.string ⟨m.toArray⟩) ∧ w'.cell? ⟨w.heap.size, 2, none⟩ = some (.slice A ps.length c) ∧ w'.cell? ⟨w.heap.size + 1, 0, none⟩ = some (.int .i64 fa) ∧ w'.cell? ⟨w.heap.size + 1, 1, none⟩ = some (.int .i64 fc)) (by kernel_rfl) ⟨CS.out.1.1 0, CS.out.1.1 1, CS.out.1.1 2, CS.out.2.1.1 0, CS.out.2.1.1 1⟩ (fun hHeld => ?_)
  refine wpAnyH_take (i := 0) (v := ?v1) rfl (by kernel_rfl) (by kernel_rfl) (by kernel_rfl) (fun _ _ _ h => h) (Or.inl ⟨by rfl, ?hy1⟩) (by assumption) ?rest1
  case hy1 => (intro w hSw; obtain ⟨s0, s1, s2, s3, s4⟩ := hSw; go_simp; try with_reducible rfl)
  try simp only [List.getElem_toArray, List.getElem_cons_succ, List.getElem_cons_zero, Act.put, List.setIfInBounds_toArray, List.set_cons_zero, List.set_cons_succ]
  refine wpAnyH_take (i := 2) (v := ?v2) rfl (by kernel_rfl) (by kernel_rfl) (by kernel_rfl) (fun _ _ _ h => h) (Or.inl ⟨by rfl, ?hy2⟩) (by assumption) ?rest2
  case hy2 => (intro w hSw; obtain ⟨s0, s1, s2, s3, s4⟩ := hSw; go_simp; try with_reducible rfl)
  try simp only [List.getElem_toArray, List.getElem_cons_succ, List.getElem_cons_zero, Act.put, List.setIfInBounds_toArray, List.set_cons_zero, List.set_cons_succ]
  refine wpAnyH_take (i := 3) (v := ?v3) rfl (by kernel_rfl) (by kernel_rfl) (by kernel_rfl) (fun _ _ _ h => h) (Or.inl ⟨by rfl, ?hy3⟩) (by assumption) ?rest3
  case hy3 => (intro w hSw; obtain ⟨s0, s1, s2, s3, s4⟩ := hSw; go_simp; try with_reducible rfl)
  try simp only [List.getElem_toArray, List.getElem_cons_succ, List.getElem_cons_zero, Act.put, List.setIfInBounds_toArray, List.set_cons_zero, List.set_cons_succ]
  refine wpAnyH_take (i := 4) (v := ?v4) rfl (by kernel_rfl) (by kernel_rfl) (by kernel_rfl) (fun _ _ _ h => h) (Or.inl ⟨by rfl, ?hy4⟩) (by assumption) ?rest4
  case hy4 => (intro w hSw; obtain ⟨s0, s1, s2, s3, s4⟩ := hSw; go_simp; try with_reducible rfl)
  try simp only [List.getElem_toArray, List.getElem_cons_succ, List.getElem_cons_zero, Act.put, List.setIfInBounds_toArray, List.set_cons_zero, List.set_cons_succ]
  refine wpAnyH_take (i := 5) (v := ?v5) rfl (by kernel_rfl) (by kernel_rfl) (by kernel_rfl) (fun _ _ _ h => h) (Or.inl ⟨by rfl, ?hy5⟩) (by assumption) ?rest5
  case hy5 => (intro w hSw; obtain ⟨s0, s1, s2, s3, s4⟩ := hSw; go_simp; try with_reducible rfl)
  try simp only [List.getElem_toArray, List.getElem_cons_succ, List.getElem_cons_zero, Act.put, List.setIfInBounds_toArray, List.set_cons_zero, List.set_cons_succ]
  refine wpAnyH_take (i := 6) (v := ?v6) rfl (by kernel_rfl) (by kernel_rfl) (by kernel_rfl) (fun _ _ _ h => h) (Or.inl ⟨by rfl, ?hy6⟩) (by assumption) ?rest6
  case hy6 => (intro w hSw; obtain ⟨s0, s1, s2, s3, s4⟩ := hSw; go_simp; try with_reducible rfl)
  try simp only [List.getElem_toArray, List.getElem_cons_succ, List.getElem_cons_zero, Act.put, List.setIfInBounds_toArray, List.set_cons_zero, List.set_cons_succ]
  refine wpAnyH_take (i := 7) (v := ?v7) rfl (by kernel_rfl) (by kernel_rfl) (by kernel_rfl) (fun _ _ _ h => h) (Or.inl ⟨by rfl, ?hy7⟩) (by assumption) ?rest7
  case hy7 => (intro w hSw; obtain ⟨s0, s1, s2, s3, s4⟩ := hSw; go_simp; try with_reducible rfl)
  try simp only [List.getElem_toArray, List.getElem_cons_succ, List.getElem_cons_zero, Act.put, List.setIfInBounds_toArray, List.set_cons_zero, List.set_cons_succ]
  refine wpAnyH_take (i := 8) (v := ?v8) rfl (by kernel_rfl) (by kernel_rfl) (by kernel_rfl) (fun _ _ _ h => h) (Or.inl ⟨by rfl, ?hy8⟩) (by assumption) ?rest8
  case hy8 => (intro w hSw; obtain ⟨s0, s1, s2, s3, s4⟩ := hSw; go_simp; try with_reducible rfl)
  try simp only [List.getElem_toArray, List.getElem_cons_succ, List.getElem_cons_zero, Act.put, List.setIfInBounds_toArray, List.set_cons_zero, List.set_cons_succ]
  refine wpAnyH_take (i := 9) (v := ?v9) rfl (by kernel_rfl) (by kernel_rfl) (by kernel_rfl) (fun _ _ _ h => h) (Or.inl ⟨by rfl, ?hy9⟩) (by assumption) ?rest9
  case hy9 => (intro w hSw; obtain ⟨s0, s1, s2, s3, s4⟩ := hSw; go_simp; try with_reducible rfl)
  try simp only [List.getElem_toArray, List.getElem_cons_succ, List.getElem_cons_zero, Act.put, List.setIfInBounds_toArray, List.set_cons_zero, List.set_cons_succ]
  refine wpAnyH_ready (rs := [1, 10]) (by kernel_rfl) (by simp) ?_
  refine AllReadyH.cons rfl (fun K hK => ?_) ?_
  · go_simp
    refine hK.out _ _ ⟨CS.out.1.1 0, CS.out.1.1 1, CS.out.1.1 2, CS.out.2.1.1 0, CS.out.2.1.1 1⟩ (fun hHeld => ?_)
    clear hK K
    try simp only [List.getElem_toArray, List.getElem_cons_succ, List.getElem_cons_zero, Act.put, List.setIfInBounds_toArray, List.set_cons_zero, List.set_cons_succ]
    refine wpAnyH_ready (rs := [10]) (by kernel_rfl) (by simp) ?_
    refine AllReadyH.cons rfl (fun K hK => ?_) AllReadyH.nil
    go_simp
    refine (B2.out _ (by (repeat (first | exact Below.refl _ _ | assumption | refine Below.drew ?_ | refine up_drewN ?_ _ | refine up_alloc ?_ _ | refine up_set ?_ _ _ (by first | exact Nat.le_refl _ | (simp; done) | (simp; omega) | omega) | refine up_trans ?_ (by assumption))))).mono ?_
    rintro e w7 ⟨u, rfl, ho, hb⟩
    have hb7 : Below w6.heap.size w6 w7 := by (repeat (first | exact Below.refl _ _ | assumption | refine Below.drew ?_ | refine up_drewN ?_ _ | refine up_alloc ?_ _ | refine up_set ?_ _ _ (by first | exact Nat.le_refl _ | (simp; done) | (simp; omega) | omega) | refine up_trans ?_ (by assumption)))
    have CS7 := Lib.hid (CS.out.up hb7)
    have EQ7 := Lib.hid (own_up EQ.out hb7)
    have HU7 := Lib.hid (RdL.of_own (f := pcC) (bs := ys) ho)
    obtain ⟨A7, c7, rfl, -, -⟩ := HU7.out.form
    obtain ⟨-, -, -, ⟨oc7, of7⟩, -⟩ := CS7.out
    have hs7 := hb7.size
    clear ho hb hb7
    dsimp only
    refine hK.out _ _ ⟨CS7.out.1.1 0, CS7.out.1.1 1, CS7.out.1.1 2, CS7.out.2.1.1 0, CS7.out.2.1.1 1⟩ (fun hHeld => ?_)
    clear hK K
    try simp only [List.getElem_toArray, List.getElem_cons_succ, List.getElem_cons_zero, Act.put, List.setIfInBounds_toArray, List.set_cons_zero, List.set_cons_succ]
    refine wpAnyH_ready (rs := [11]) (by kernel_rfl) (by simp) ?_
    refine AllReadyH.cons rfl (fun K hK => ?_) AllReadyH.nil
    refine step_append_any _ (by rfl) _ _ 46 (by rfl) (w3.heap.size + 1) 79 i0 _ 3 24 Try.underlying46 hi0 hz0 hz1 hz2 rfl (by decide) (.slice A5 zs.length C5) zs.length _ (by rfl) EQ7.out (.slice A7 ys.length c7) ys.length _ (by rfl) HU7.out (pc_oneCell ys) (by unfold maxLen; omega) (by omega) (by omega) ?_
    intro v8 w8 how hgr
    have HO8 := Lib.hid (show OwnP w8 (w3.heap.size + 1) v8 rs from ER.out ▸ own_pieces how (by simp))
    obtain ⟨A8, c8, rfl, -, -⟩ := (RdL.of_own (f := pcC) (bs := rs) HO8.out).form
    have CS8 := Lib.hid (CS7.out.grown EQ7.out (by omega) hgr)
    obtain ⟨-, -, -, ⟨oc8, of8⟩, -⟩ := CS8.out
    have CS9 := Lib.hid (show ChS w (w8.setCell ⟨w3.heap.size, 2, none⟩ (.slice A8 rs.length c8)) #[S f, S m, .slice A ps.length c] #[.int .i64 fa, .int .i64 fc, S fp] #[S [], S [], .slice none 0 0] w3.heap.size #[S f, S (m ++ fp), .slice A8 rs.length c8] from CS8.out.put (k := 2) (by simp) _)
    have HO9 := Lib.hid (own_setn HO8.out ⟨w3.heap.size, 2, none⟩ (.slice A8 rs.length c8) (fun g hg => by have := (HO8.out.lt g hg).1; show g ≠ w3.heap.size; omega))
    clear how hgr
    refine hK.out _ _ ⟨CS8.out.1.1 0, CS8.out.1.1 1, CS8.out.1.1 2, CS8.out.2.1.1 0, CS8.out.2.1.1 1⟩ (fun hHeld => ?_)
    clear hK K
    try simp only [List.getElem_toArray, List.getElem_cons_succ, List.getElem_cons_zero, Act.put, List.setIfInBounds_toArray, List.set_cons_zero, List.set_cons_succ]
    refine wpAnyH_take (i := 12) (v := ?v10) rfl (by kernel_rfl) (by kernel_rfl) (by kernel_rfl) (fun _ _ _ h => h) (Or.inl ⟨by rfl, ?hy10⟩) (by assumption) ?rest10
    case hy10 => (intro w hSw; obtain ⟨s0, s1, s2, s3, s4⟩ := hSw; go_simp; try with_reducible rfl)
    try simp only [List.getElem_toArray, List.getElem_cons_succ, List.getElem_cons_zero, Act.put, List.setIfInBounds_toArray, List.set_cons_zero, List.set_cons_succ]
    refine wpAnyH_ready (rs := [13]) (by kernel_rfl) (by simp) ?_
    refine AllReadyH.cons rfl (fun K hK => ?_) AllReadyH.nil
    go_simp
    refine hK.out _ _ ⟨CS9.out.1.1 0, CS9.out.1.1 1, CS9.out.1.1 2, CS9.out.2.1.1 0, CS9.out.2.1.1 1⟩ (fun hHeld => ?_)
    clear hK K
    try simp only [List.getElem_toArray, List.getElem_cons_succ, List.getElem_cons_zero, Act.put, List.setIfInBounds_toArray, List.set_cons_zero, List.set_cons_succ]
    refine wpAnyH_done (by kernel_rfl) ?_ _
    refine NoPanic.normal ?_
    obtain ⟨w9, hw9⟩ : ∃ z, z = w8.setCell ⟨w3.heap.size, 2, none⟩ (.slice A8 rs.length c8) := ⟨_, rfl⟩
    rw [← hw9] at CS9 HO9 ⊢
    clear hw9 oc8 of8 CS8 HO8 oc7 of7 CS7 EQ7 HU7 oc of_ xc xf dc df CS EQ
    obtain ⟨-, -, ⟨yc, yf⟩, ⟨oc, of_⟩, -⟩ := CS9.out
    go_wp2_with fail
    refine bodyPost_ret (v := .tuple #[.agg #[S f, S (m ++ fp), .slice A8 rs.length c8], .bool true]) (by simp [results, Try.results23, go_sem, yc]) rfl ⟨_, rfl, ?_, by (repeat refine up_set ?_ _ _ (by first | exact Nat.le_refl _ | (simp; done) | (simp; omega))); exact CS9.out.2.2.2.2.2.2⟩
    exact own_base (own_set (own_set (own_set HO9.out _ _ (by simp; omega)) _ _ (by simp; omega)) _ _ (by simp; omega)) (by omega)
  refine AllReadyH.cons rfl (fun K hK => ?_) AllReadyH.nil
  go_simp
  refine (B2.out _ (by (repeat (first | exact Below.refl _ _ | assumption | refine Below.drew ?_ | refine up_drewN ?_ _ | refine up_alloc ?_ _ | refine up_set ?_ _ _ (by first | exact Nat.le_refl _ | (simp; done) | (simp; omega) | omega) | refine up_trans ?_ (by assumption))))).mono ?_
  rintro e w7 ⟨u, rfl, ho, hb⟩
  have hb7 : Below w6.heap.size w6 w7 := by (repeat (first | exact Below.refl _ _ | assumption | refine Below.drew ?_ | refine up_drewN ?_ _ | refine up_alloc ?_ _ | refine up_set ?_ _ _ (by first | exact Nat.le_refl _ | (simp; done) | (simp; omega) | omega) | refine up_trans ?_ (by assumption)))
  have CS7 := Lib.hid (CS.out.up hb7)
  have EQ7 := Lib.hid (own_up EQ.out hb7)
  have HU7 := Lib.hid (RdL.of_own (f := pcC) (bs := ys) ho)
  obtain ⟨A7, c7, rfl, -, -⟩ := HU7.out.form
  obtain ⟨-, -, -, ⟨oc7, of7⟩, -⟩ := CS7.out
  have hs7 := hb7.size
  clear ho hb hb7
  dsimp only
  refine hK.out _ _ ⟨CS7.out.1.1 0, CS7.out.1.1 1, CS7.out.1.1 2, CS7.out.2.1.1 0, CS7.out.2.1.1 1⟩ (fun hHeld => ?_)
  clear hK K
  try simp only [List.getElem_toArray, List.getElem_cons_succ, List.getElem_cons_zero, Act.put, List.setIfInBounds_toArray, List.set_cons_zero, List.set_cons_succ]
  refine wpAnyH_ready (rs := [1]) (by kernel_rfl) (by simp) ?_
  refine AllReadyH.cons rfl (fun K hK => ?_) AllReadyH.nil
  go_simp
  refine hK.out _ _ ⟨CS7.out.1.1 0, CS7.out.1.1 1, CS7.out.1.1 2, CS7.out.2.1.1 0, CS7.out.2.1.1 1⟩ (fun hHeld => ?_)
  clear hK K
  try simp only [List.getElem_toArray, List.getElem_cons_succ, List.getElem_cons_zero, Act.put, List.setIfInBounds_toArray, List.set_cons_zero, List.set_cons_succ]
  refine wpAnyH_ready (rs := [11]) (by kernel_rfl) (by simp) ?_
  refine AllReadyH.cons rfl (fun K hK => ?_) AllReadyH.nil
  refine step_append_any _ (by rfl) _ _ 46 (by rfl) (w3.heap.size + 1) 79 i0 _ 3 24 Try.underlying46 hi0 hz0 hz1 hz2 rfl (by decide) (.slice A5 zs.length C5) zs.length _ (by rfl) EQ7.out (.slice A7 ys.length c7) ys.length _ (by rfl) HU7.out (pc_oneCell ys) (by unfold maxLen; omega) (by omega) (by omega) ?_
  intro v8 w8 how hgr
  have HO8 := Lib.hid (show OwnP w8 (w3.heap.size + 1) v8 rs from ER.out ▸ own_pieces how (by simp))
  obtain ⟨A8, c8, rfl, -, -⟩ := (RdL.of_own (f := pcC) (bs := rs) HO8.out).form
  have CS8 := Lib.hid (CS7.out.grown EQ7.out (by omega) hgr)
  obtain ⟨-, -, -, ⟨oc8, of8⟩, -⟩ := CS8.out
  have CS9 := Lib.hid (show ChS w (w8.setCell ⟨w3.heap.size, 2, none⟩ (.slice A8 rs.length c8)) #[S f, S m, .slice A ps.length c] #[.int .i64 fa, .int .i64 fc, S fp] #[S [], S [], .slice none 0 0] w3.heap.size #[S f, S (m ++ fp), .slice A8 rs.length c8] from CS8.out.put (k := 2) (by simp) _)
  have HO9 := Lib.hid (own_setn HO8.out ⟨w3.heap.size, 2, none⟩ (.slice A8 rs.length c8) (fun g hg => by have := (HO8.out.lt g hg).1; show g ≠ w3.heap.size; omega))
  clear how hgr
  refine hK.out _ _ ⟨CS8.out.1.1 0, CS8.out.1.1 1, CS8.out.1.1 2, CS8.out.2.1.1 0, CS8.out.2.1.1 1⟩ (fun hHeld => ?_)
  clear hK K
  try simp only [List.getElem_toArray, List.getElem_cons_succ, List.getElem_cons_zero, Act.put, List.setIfInBounds_toArray, List.set_cons_zero, List.set_cons_succ]
  refine wpAnyH_take (i := 12) (v := ?v11) rfl (by kernel_rfl) (by kernel_rfl) (by kernel_rfl) (fun _ _ _ h => h) (Or.inl ⟨by rfl, ?hy11⟩) (by assumption) ?rest11
  case hy11 => (intro w hSw; obtain ⟨s0, s1, s2, s3, s4⟩ := hSw; go_simp; try with_reducible rfl)
  try simp only [List.getElem_toArray, List.getElem_cons_succ, List.getElem_cons_zero, Act.put, List.setIfInBounds_toArray, List.set_cons_zero, List.set_cons_succ]
  refine wpAnyH_ready (rs := [13]) (by kernel_rfl) (by simp) ?_
  refine AllReadyH.cons rfl (fun K hK => ?_) AllReadyH.nil
  go_simp
  refine hK.out _ _ ⟨CS9.out.1.1 0, CS9.out.1.1 1, CS9.out.1.1 2, CS9.out.2.1.1 0, CS9.out.2.1.1 1⟩ (fun hHeld => ?_)
  clear hK K
  try simp only [List.getElem_toArray, List.getElem_cons_succ, List.getElem_cons_zero, Act.put, List.setIfInBounds_toArray, List.set_cons_zero, List.set_cons_succ]
  refine wpAnyH_done (by kernel_rfl) ?_ _
  refine NoPanic.normal ?_
  obtain ⟨w9, hw9⟩ : ∃ z, z = w8.setCell ⟨w3.heap.size, 2, none⟩ (.slice A8 rs.length c8) := ⟨_, rfl⟩
  rw [← hw9] at CS9 HO9 ⊢
  clear hw9 oc8 of8 CS8 HO8 oc7 of7 CS7 EQ7 HU7 oc of_ xc xf dc df CS EQ
  obtain ⟨-, -, ⟨yc, yf⟩, ⟨oc, of_⟩, -⟩ := CS9.out
  go_wp2_with fail
  refine bodyPost_ret (v := .tuple #[.agg #[S f, S (m ++ fp), .slice A8 rs.length c8], .bool true]) (by simp [results, Try.results23, go_sem, yc]) rfl ⟨_, rfl, ?_, by (repeat refine up_set ?_ _ _ (by first | exact Nat.le_refl _ | (simp; done) | (simp; omega))); exact CS9.out.2.2.2.2.2.2⟩
  exact own_base (own_set (own_set (own_set HO9.out _ _ (by simp; omega)) _ _ (by simp; omega)) _ _ (by simp; omega)) (by omega)

end Go.Proofs.Ytlejfmngpbcdhaa
