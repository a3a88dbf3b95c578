/- What is proved here: facts and contracts that the walks above this text need. No condition. -/
import Derived.Test.YtbjlkdenkmbepaaGreatDoorL20E
import Derived.Test.YtbjlkdenkmbepaaGreatDoorAc2
import Derived.Test.YtbjlkdenkmbepaaGreatDoorEr
import Derived.Test.YtbjlkdenkmbepaaGreatDoorLin2
namespace Go.Proofs.YtbjlkdenkmbepaaGreatDoor
open Go.RowKit
set_option linter.unusedVariables false

theorem gb_ownE {a b c' : World} {row r : Option Nat} (h : a.grownBy b row) (k : b.grownBy c' r) (hr : ∀ i, r = some i → a.heap.size ≤ i) : a.grownBy c' row :=
  ⟨k.os.trans h.os, k.tape.trans h.tape, k.output.trans h.output, Nat.le_trans h.size k.size, fun i hi hne => (k.block i (Nat.lt_of_lt_of_le hi h.size) (fun e => by have := hr i e.symm; omega)).trans (h.block i hi hne)⟩
theorem rep_strE (n : Nat) : (List.replicate n ([] : List UInt8)).flatMap strC = List.replicate n (S []) := by
  induction n with
  | zero => rfl
  | succ n ih => rw [List.replicate_succ, List.flatMap_cons, ih, List.replicate_succ]; rfl
theorem made_strE (n : Nat) : (madeCells (S []).cells (n * 1)).toList = (List.replicate n ([] : List UInt8)).flatMap strC := by
  rw [rep_strE]
  unfold madeCells
  rw [Array.toList_map, Array.toList_range, Nat.mul_one]
  apply List.ext_getElem (by simp)
  intro k h1 h2
  simp [Value.cells, Nat.mod_one]
def DerPost (w : World) (en : Ending) (w' : World) : Prop := ∃ (e : Es) (u v : Value) (rs : List (List UInt8)), en = .returned (.tuple #[edW e u, v]) ∧ EWk e ∧ OwnM w' w.heap.size u e.ms ∧ rs.length ≤ 121 ∧ (∀ r ∈ rs, r.length ≤ 100) ∧ RdL w' 1 strC v rs ∧ Below w.heap.size w w'
set_option maxRecDepth 100000 in
set_option maxHeartbeats 2000000 in
theorem drawEditorRun_any (v : Value) (n : Nat) (zs : List Int) (w : World) (h : Bytes w w.heap.size v n zs) :
    Calls Tryz.prog 12 #[v] w (DerPost w) := by
  have hW := Below.refl w.heap.size w
  obtain ⟨i0, hi, hz0, hz1, hz2⟩ := info_parts str_info
  go_enter Tryz.func12, Tryz.ntmps12
  go_wp2_with fail
  refine (open_any v n zs _ (h.to (by exact bBel))).mono ?_
  rintro e w1 ⟨g, m, ys, rfl, hr, hb, hg⟩
  have yc : ∀ o, w1.cell? ⟨w.heap.size, o, none⟩ = #[S [], .int .i64 0, S [], .slice none 0 0, .int .i64 0][o]? := (fun o => (hb.cell (p := ⟨w.heap.size, o, none⟩) (by simp <;> omega)).trans (by simp [go_sem])); have yf : ∀ o, w1.frozen? ⟨w.heap.size, o, none⟩ = false := (fun o => (hb.frozen (p := ⟨w.heap.size, o, none⟩) (by simp <;> omega)).trans (by simp [go_sem])); have yz : w.heap.size < w1.heap.size := (by have := hb.size; (try simp at this); omega); have yy := yz
  have hW1 : Below w.heap.size w w1 := by exact bBel
  have hg2 : w.heap.size + 1 ≤ g := by simp at hg; omega
  clear hb h yy hg hW
  go_wp2_with fail
  refine (l20Editor_any _ _ _ _ _ _ hr (by omega)).mono ?_
  rintro en w2 ⟨ed, u, rfl, hk, ho, ⟨q, hq, hr2⟩, hb⟩
  have yI := is_grownE (show Is w1 w.heap.size _ from ⟨yc, yf⟩) hb yz (fun e => by injection e; omega)
  have yz2 := Nat.lt_of_lt_of_le yz hb.size
  have HW := Lib.hid (up_grown hW1 hb (fun k hk => by injection hk with hk; omega))
  have HK := Lib.hid hk
  have hgl := hr.lt
  have sw2 := hW1.size
  have hz1' : w.heap.size + 1 ≤ w1.heap.size := by omega
  obtain ⟨s, x, cl, ms, pa⟩ := ed
  obtain ⟨A, c, rfl, -, -⟩ := (RdL.of_own (f := moC) (bs := ms) ho).form
  have HO := Lib.hid ho
  have hz2' := hb.size
  unfold edW edAgg
  clear hb ho hk hr yc yf yz hW1
  go_upto_region 3 with (fail)
  obtain ⟨W3, hw⟩ : ∃ z, z = w2.alloc (.cells #[S s, .int .i64 x, S cl, .slice A ms.length c, .int .i64 pa] 27) := ⟨_, rfl⟩
  rw [← hw]
  have hB3 : Below w2.heap.size w2 W3 := by rw [hw]; exact up_alloc (Below.refl _ _) _
  have zI : Is W3 w2.heap.size #[S s, .int .i64 x, S cl, .slice A ms.length c, .int .i64 pa] := by rw [hw]; exact new_is w2 _ _
  have zz : w2.heap.size < W3.heap.size := by rw [hw]; simp
  clear hw
  have HY := Lib.hid (yI.up yz2 hB3)
  have yz3 := Nat.lt_of_lt_of_le yz2 hB3.size
  have hr3 := hr2.up hB3
  have HO3 := Lib.hid (own_up HO.out hB3)
  have HW3 := Lib.hid (up_trans HW.out hB3)
  have HZ := Lib.hid zI
  obtain ⟨z, hz⟩ : ∃ z, z = w2.heap.size := ⟨_, rfl⟩
  have hzg : g < z := by omega
  have hwz : w.heap.size < z := by omega
  rw [← hz] at zz HZ ⊢
  clear hB3 zI yI HO HW hr2 hz
  have hgz3 : g < W3.heap.size := by omega
  have HS3 := Lib.hid (own_emptyS W3 W3.heap.size (Nat.le_refl _))
  go_wp2_with fail
  refine (pick_any _ _ _ _ _ _ (hr3.up (by exact bBel)) (by omega)).mono ?_
  rintro e w4 ⟨x3, rfl, h1, h2, hr4, hb⟩
  have hx3 := h1 (by omega)
  have HS4 := Lib.hid (gup_own HS3.out hb hgz3)
  have hG4 : W3.grownBy w4 (some g) := by (repeat (first | exact World.grownBy.refl _ _ | assumption | refine gb_drew ?_ | refine gb_drewN ?_ _ | refine gb_alloc ?_ _ | refine gb_here ?_ rfl _ | refine gb_set ?_ _ _ (by first | exact Nat.le_refl _ | (simp; done) | (simp; omega) | omega) | refine gb_trans ?_ (by assumption) | refine gb_below ?_ (by assumption)))
  obtain ⟨k0, rfl⟩ : ∃ k0 : Nat, x3 = k0 := ⟨x3.toNat, by omega⟩
  clear hb hr3 h1 h2 HS3
  go_wp2_with fail
  go_loopw [6, 7] (fun t i wr => ∃ (v0 : Value) (k q0 : Nat) (rs : List (List UInt8)), v0 = t ∧ k ≤ 5 ∧ i = .int .i64 k ∧ rs.length + k ≤ 5 ∧ (∀ r ∈ rs, r.length ≤ 100) ∧ q0 + 100 * k ≤ q + 1000 ∧ Rdr wr g m ys q0 ∧ W3.grownBy wr (some g) ∧ Hid (Own wr W3.heap.size 9 1 v0 rs.length (rs.flatMap strC))) (fun _ i _ => (intOf i).toNat)
  case atStart => exact ⟨_, k0, _, [], rfl, by omega, rfl, by simp; omega, by simp, by omega, hr4, hG4, HS4⟩
  case round =>
    obtain ⟨v, k, q0, rs, rfl, hk, rfl, hN, hrs, hq0, hrw, hGr, HSr⟩ := hrel
    clear hr4 hG4 HS4
    have hsz := hGr.size
    by_cases h0 : 0 < k
    · have j1 : (0 : Int) < (k : Int) := by omega
      have HRS := Lib.hid hrs
      clear hrs
      go_wp2_with fail
      refine (l20Action_any g m ys q0 14 _ hrw (by omega)).mono ?_
      rintro en w5 ⟨a, rfl, hal, ⟨q5, hq5, hr5⟩, hb⟩
      have HO5 := Lib.hid (gup_own HSr.out hb hgz3)
      have hG5 := gb_trans hGr hb
      have s5 := hG5.size
      clear hb hrw hGr HSr
      go_upto_region 6 with (at_builtin; go_loud (
         refine wpList_append_own _ rfl _ _ 28 rfl W3.heap.size 9 i0 (S []) 1 16 Tryz.underlying28 hi hz0 hz1 hz2 rfl (by decide) _ _ _ rfl (HO5.out.alloc _) ⟨w5.heap.size, 0, none⟩ 1 1 [S a] rfl rfl (cells_new _ _ _) (by intro u hu; simp at hu; subst hu; rfl) (by unfold maxLen; omega) (by omega) (by simp; omega) ?_
         intro v6 w6 how hgr _
         have HO6 := Lib.hid (show Own w6 W3.heap.size 9 1 v6 (rs ++ [a]).length ((rs ++ [a]).flatMap strC) by simpa [strC] using how)
         have hlow := fun (i : Nat) hi => own_lt HO5.out (Nat.le_refl _) i hi
         have hB6 : Below W3.heap.size w5 w6 := (up_alloc (Below.refl _ _) _ |>.mono (by omega)).grown hgr (by simp; omega) (fun i hi => hlow i hi)
         have hG6 := gb_ownE (gb_alloc hG5 _) hgr hlow
         have hr6 : Rdr w6 g m ys q5 := hr5.below (hB6.mono (by omega))
         clear how hgr hlow hB6 hG5 hr5 HO5))
      have hrl : ∀ r ∈ rs ++ [a], r.length ≤ 100 := fun r hr => by
        rw [List.mem_append, List.mem_singleton] at hr
        rcases hr with hr | rfl
        · exact HRS.out r hr
        · exact hal
      have HRL := Lib.hid hrl
      clear hrl HRS
      go_wp2_with fail
      go_roundw
      case rel => exact ⟨_, k - 1, q5, rs ++ [a], rfl, by omega, congrArg (Value.int .i64) (by omega), by simp; omega, HRL.out, by omega, hr6, hG6, HO6⟩
      case measure => simp [intOf]; omega
    · obtain rfl : k = 0 := by omega
      have HRS := Lib.hid hrs
      clear hrs
      go_wp2_with fail
      refine (odd_any _ _ _ _ _ _ hrw (by omega)).mono ?_
      rintro e w5 ⟨x4, rfl, ⟨q5, hq5, hr5⟩, hb⟩
      have HO5 := Lib.hid (gup_own HSr.out hb hgz3)
      have hG5 := gb_trans hGr hb
      have s5 := hG5.size
      have yI := is_grownE HY.out hG5 yz3 (fun e => by injection e; omega)
      have zI := is_grownE HZ.out hG5 zz (fun e => by injection e; omega)
      have HM5 := Lib.hid (gup_own HO3.out hG5 hgl)
      have HW5 := Lib.hid (show Below w.heap.size w w5 from up_grown HW3.out hG5 (fun k hk => by injection hk with hk; omega))
      clear hb hrw hGr HSr hr5 hG5
      rcases x4 with _ | _
      · have yc := yI.1
        have yf := yI.2
        have zc := zI.1
        have hne1 : ¬ w.heap.size = z := by omega
        have hne2 : ¬ z = w.heap.size := by omega
        have HSF := Lib.hid (fun (u0 u1 u2 u3 u4 : Value) => RdL.of_own (f := strC) (bs := rs) (own_set (own_set (own_set (own_set (own_set HO5.out ⟨w.heap.size, 0, none⟩ u0 (show w.heap.size < _ by omega)) ⟨w.heap.size, 1, none⟩ u1 (show w.heap.size < _ by omega)) ⟨w.heap.size, 2, none⟩ u2 (show w.heap.size < _ by omega)) ⟨w.heap.size, 3, none⟩ u3 (show w.heap.size < _ by omega)) ⟨w.heap.size, 4, none⟩ u4 (show w.heap.size < _ by omega)))
        clear yI zI
        go_wp2_with fail
        refine bodyPost_ret (v := .tuple #[.agg #[S s, .int .i64 x, S cl, .slice A ms.length c, .int .i64 pa], v]) (by simp [results, Tryz.results12, go_sem, yc]) rfl ⟨⟨s, x, cl, ms, pa⟩, .slice A ms.length c, v, rs, rfl, HK.out, own_base (own_all5 HM5.out (by omega) (S s) (.int .i64 x) (S cl) (.slice A ms.length c) (.int .i64 pa)) (by omega), by omega, HRS.out, HSF.out _ _ _ _ _, ?_⟩
        have hQ := HW5.out
        (repeat refine up_set ?_ _ _ (by first | exact Nat.le_refl _ | (simp; done) | (simp; omega) | omega))
        exact hQ
      · go_upto_region 10 with (at_make; refine wpList_make_full _ rfl _ _ 28 rfl w5.heap.size 9 i0 _ 1 Tryz.underlying28 hi hz0 hz1 _ _ _ _ 121 rfl rfl rfl rfl (by rw [hz2]; omega) (by unfold maxLen; omega) (Nat.le_refl _) ?_; intro w6 how hgr)
        have hB6 : Below w5.heap.size w5 w6 := up_grown (Below.refl _ _) hgr (fun k hk => by cases hk)
        have HO6 := Lib.hid (show Own w6 w5.heap.size 9 1 (.slice (some ⟨w5.heap.size, 0, none⟩) 121 121) 121 ((List.replicate 121 ([] : List UInt8)).flatMap strC) by
          have e : (madeCells (S []).cells (121 * 1)).toList = (List.replicate 121 ([] : List UInt8)).flatMap strC := made_strE 121
          have h7 := how
          change Own w6 w5.heap.size 9 1 _ _ (madeCells (S []).cells (121 * 1)).toList at h7
          rw [e] at h7
          exact h7)
        have HM6 := Lib.hid (own_up HM5.out hB6)
        have HW6 := Lib.hid (up_trans HW5.out hB6)
        have yI6 := yI.up (by omega) hB6
        have zI6 := zI.up (by omega) hB6
        have yc := yI6.1
        have yf := yI6.2
        have zc := zI6.1
        have hne1 : ¬ w.heap.size = z := by omega
        have hne2 : ¬ z = w.heap.size := by omega
        have HSF := Lib.hid (fun (u0 u1 u2 u3 u4 : Value) => (own_set (own_set (own_set (own_set (own_set HO6.out ⟨w.heap.size, 0, none⟩ u0 (show w.heap.size < _ by omega)) ⟨w.heap.size, 1, none⟩ u1 (show w.heap.size < _ by omega)) ⟨w.heap.size, 2, none⟩ u2 (show w.heap.size < _ by omega)) ⟨w.heap.size, 3, none⟩ u3 (show w.heap.size < _ by omega)) ⟨w.heap.size, 4, none⟩ u4 (show w.heap.size < _ by omega)))
        clear yI zI yI6 zI6 how hgr hB6 HM5 HW5 HO5 HRS
        go_wp2_with fail
        refine bodyPost_ret (v := .tuple #[.agg #[S s, .int .i64 x, S cl, .slice A ms.length c, .int .i64 pa], .slice (some ⟨w5.heap.size, 0, none⟩) 121 121]) (by simp [results, Tryz.results12, go_sem, yc]) rfl ⟨⟨s, x, cl, ms, pa⟩, .slice A ms.length c, .slice (some ⟨w5.heap.size, 0, none⟩) 121 121, List.replicate 121 [], rfl, HK.out, own_base (own_all5 HM6.out (by omega) (S s) (.int .i64 x) (S cl) (.slice A ms.length c) (.int .i64 pa)) (by omega), by simp, (fun r hr => by rw [(List.mem_replicate.1 hr).2]; simp), ?_, ?_⟩
        · exact RdL.of_own (f := strC) (bs := List.replicate 121 []) (by have := HSF.out (S s) (.int .i64 x) (S cl) (.slice A ms.length c) (.int .i64 pa); simpa using this)
        · have hQ := HW6.out
          (repeat refine up_set ?_ _ _ (by first | exact Nat.le_refl _ | (simp; done) | (simp; omega) | omega))
          exact hQ

end Go.Proofs.YtbjlkdenkmbepaaGreatDoor

namespace Go.Proofs.YtbjlkdenkmbepaaGreatDoor
open Go.RowKit
set_option linter.unusedVariables false

theorem rdS_nilE (w : World) (A : Option Addr) (c : Nat) : RdL w 1 strC (.slice A 0 c) [] := ⟨rfl, Nat.zero_le _, A, c, rfl, Nat.zero_le _, fun h => absurd h (by simp)⟩
theorem rdS_takeE {w : World} {A : Option Addr} {n c k : Nat} {rs : List (List UInt8)} (h : RdL w 1 strC (.slice A n c) rs) (hk : k ≤ n) : RdL w 1 strC (.slice A k c) (rs.take k) := by
  obtain ⟨h1, h2, A', c', he, h3, h4⟩ := h
  injection he with e1 e2 e3
  subst e1 e3
  have hl : (rs.take k).length = k := by rw [List.length_take]; omega
  refine ⟨flat_len strC 1 strC_len _, by omega, A, c, by rw [hl], by omega, fun hp => ?_⟩
  obtain ⟨b, o, rfl, hb, hc⟩ := h4 (by omega)
  refine ⟨b, o, rfl, hb, fun j u hu => hc j u ?_⟩
  rw [flat_take strC 1 strC_len, Nat.mul_one] at hu
  have hj := (List.getElem?_eq_some_iff.1 hu).1
  rw [List.length_take] at hj
  rwa [List.getElem?_take_of_lt (by omega)] at hu
theorem rdS_dropE {w : World} {b o n c k : Nat} {rs : List (List UInt8)} (h : RdL w 1 strC (.slice (some ⟨b, o, none⟩) n c) rs) (hk : k ≤ n) : RdL w 1 strC (.slice (some ⟨b, o + k, none⟩) (n - k) (c - k)) (rs.drop k) := by
  obtain ⟨h1, h2, A', c', he, h3, h4⟩ := h
  injection he with e1 e2 e3
  subst e1 e3
  have hl : (rs.drop k).length = n - k := by rw [List.length_drop]; omega
  refine ⟨flat_len strC 1 strC_len _, by omega, _, _, by rw [hl], by omega, fun hp => ?_⟩
  obtain ⟨b', o', e, hb, hc⟩ := h4 (by omega)
  injection e with e
  injection e with e4 e5
  subst e4 e5
  refine ⟨b, o + k, rfl, hb, fun j u hu => ?_⟩
  rw [flat_drop strC 1 strC_len, Nat.mul_one, List.getElem?_drop] at hu
  have := hc _ _ hu
  rwa [← Nat.add_assoc] at this
/-- a slice that shows the texts L in world wk. -/
def xSl (X : Bxp) (B base : Nat) (wk : World) (L : List (List UInt8)) : Ty (RX X B base) := ⟨fun v _ => ∃ A n c, v = .slice A n c ∧ RdL wk 1 strC (.slice A n c) L, fun _ _ _ _ h => h⟩
set_option maxRecDepth 100000 in
set_option maxHeartbeats 4000000 in
theorem editorRun_walk (v : Value) (n : Nat) (zs : List Int) (w : World) (h : Bytes w w.heap.size v n zs) (hL : LW w) :
    Calls Tryz.prog 3 #[v] w fun e w' => e = .returned (.bool true) ∧ Below w.heap.size w w' := by
  have h' := h
  obtain ⟨h1, h2, A, c, rfl, h3, h4, h5⟩ := h
  clear h5 h2 h1 h4
  by_cases hn : n ≤ 1048576
  case neg =>
    go_enter Tryz.func3, Tryz.ntmps3
    go_wp2_with fail
    go_ret
    exact ⟨rfl, Below.refl _ _⟩
  have hW := Below.refl w.heap.size w
  have HL := Lib.hid hL
  clear hL
  go_enter Tryz.func3, Tryz.ntmps3
  go_wp2_with fail
  refine (drawEditorRun_any _ n zs _ (h'.to (by exact bBel))).mono ?_
  rintro e w1 ⟨ed, u, lv, rs, rfl, hk, ho, hrl, hrs, hlv, hb⟩
  have hB : Below w.heap.size w w1 := (by exact bBel); have sw1 := hB.size; replace hW := up_trans hW hB; clear hB
  clear hb h'
  have hrd := DrE_rd ho hk
  have hr6 : ∀ r ∈ rs, r.length ≤ 1048576 := fun r hr => by have := hrs r hr; omega
  have hk1 : ed.s.length ≤ maxLen := by have := hk.1; unfold maxLen; omega
  have hk2 : ed.cl.length ≤ maxLen := by have := hk.2.1; unfold maxLen; omega
  have hk3 : ed.ms.length ≤ 1048576 := by have := hk.2.2.1; omega
  obtain ⟨X, N, hF, hC⟩ := run_facts ed rs hk1 hk2 hk3 hr6
  have HR6 := Lib.hid hr6
  have HC := Lib.hid hC
  have hm2 := run_small hC
  obtain ⟨s, x, cl, ms, pa⟩ := ed
  obtain ⟨s2, x2, cl2, ms2, pa2⟩ := X
  have hml := hk.2.2.1
  simp only at hml hrd hm2
  obtain ⟨UA, UC, rfl, -, -⟩ := (RdL.of_own (f := moC) (bs := ms) ho).form
  obtain ⟨LA, LC, rfl, hll, hlc⟩ := hlv.form
  have HR1 := Lib.hid hrd
  have HV1 := Lib.hid hlv
  have hp2 := Lib.hid hm2.2
  have hm30 := hm2.1
  have II := Lib.hid hF.1
  have SS := Lib.hid hF.2
  clear ho hrd hk hF hC hlv hm2 hk1 hk2 hk3 hrs hr6 hll
  unfold ErPost edW edAgg at II SS
  unfold edW edAgg
  simp only at II SS hp2 ⊢
  go_upto_region 4 with (fail)
  obtain ⟨W2, hw⟩ : ∃ z, z = w1.alloc (.cells #[S s, .int .i64 x, S cl, .slice UA ms.length UC, .int .i64 pa] 27) := ⟨_, rfl⟩
  rw [← hw]
  have xI : Is W2 w1.heap.size #[S s, .int .i64 x, S cl, .slice UA ms.length UC, .int .i64 pa] := by rw [hw]; exact new_is w1 _ _
  have hB2 : Below w1.heap.size w1 W2 := by rw [hw]; exact up_alloc (Below.refl _ _) _
  have xz : w1.heap.size < W2.heap.size := by rw [hw]; simp
  have xc := xI.1
  have XI := Lib.hid xI
  have HRe := Lib.hid (HR1.out.up hB2)
  have HV := Lib.hid (RdL.up HV1.out hB2)
  have HW := Lib.hid (up_trans hW hB2)
  clear hw HR1 HV1 hW xI hB2
  obtain ⟨d, hd⟩ : ∃ d, d = w1.heap.size := ⟨_, rfl⟩
  rw [← hd] at xc xz XI ⊢
  clear hd
  go_wp2_with fail
  refine (II.out _ _ _ HRe.out HV.out (HL.out.up HW.out)).mono ?_
  rintro e w3 ⟨u3, rfl, ho3, hb⟩
  obtain ⟨A3, c3, rfl, -, -⟩ := (RdL.of_own (f := moC) (bs := ms2) ho3).form
  have hr3 : RdM w3 (.slice A3 ms2.length c3) ms2 := ⟨RdL.of_own ho3, hp2.out⟩
  replace XI := XI.out.up xz hb
  replace xz := Nat.lt_of_lt_of_le xz hb.size
  replace HRe := HRe.out.up hb
  replace HV := RdL.up HV.out hb
  replace HW := up_trans HW.out hb
  clear hb II ho3 xc
  go_upto_region 5 with (fail)
  obtain ⟨W4, hw⟩ : ∃ z, z = w3.alloc (.cells #[S s2, .int .i64 x2, S cl2, .slice A3 ms2.length c3, .int .i64 pa2] 27) := ⟨_, rfl⟩
  rw [← hw]
  have yI : Is W4 w3.heap.size #[S s2, .int .i64 x2, S cl2, .slice A3 ms2.length c3, .int .i64 pa2] := by rw [hw]; exact new_is w3 _ _
  have hB4 : Below w3.heap.size w3 W4 := by rw [hw]; exact up_alloc (Below.refl _ _) _
  have yz : w3.heap.size < W4.heap.size := by rw [hw]; simp
  replace XI := XI.up xz hB4
  replace xz := Nat.lt_of_lt_of_le xz hB4.size
  replace HRe := Lib.hid (HRe.up hB4)
  replace HV := Lib.hid (RdL.up HV hB4)
  replace hr3 := Lib.hid (hr3.up hB4)
  replace HW := Lib.hid (up_trans HW hB4)
  have xc := XI.1
  clear hw hB4
  obtain ⟨p, hp⟩ : ∃ p, p = w3.heap.size := ⟨_, rfl⟩
  rw [← hp] at yI yz ⊢
  clear hp
  replace XI := Lib.hid XI
  have YI := Lib.hid yI
  clear yI
  go_wp2_with fail
  refine (SS.out _ _ _ HRe.out HV.out).mono ?_
  rintro e w5 ⟨u5, rfl, ho5, hb⟩
  obtain ⟨A5, c5, rfl, -, -⟩ := (RdL.of_own (f := moC) (bs := ms2) ho5).form
  have hr5 : RdM w5 (.slice A5 ms2.length c5) ms2 := ⟨RdL.of_own ho5, hp2.out⟩
  replace XI := XI.out.up xz hb
  replace xz := Nat.lt_of_lt_of_le xz hb.size
  replace YI := YI.out.up yz hb
  replace yz := Nat.lt_of_lt_of_le yz hb.size
  replace HRe := HRe.out.up hb
  replace HV := RdL.up HV.out hb
  replace hr3 := hr3.out.up hb
  replace HW := up_trans HW.out hb
  clear hb SS ho5 xc
  go_upto_region 6 with (fail)
  obtain ⟨W6, hw⟩ : ∃ z, z = w5.alloc (.cells #[S s2, .int .i64 x2, S cl2, .slice A5 ms2.length c5, .int .i64 pa2] 27) := ⟨_, rfl⟩
  rw [← hw]
  have zI : Is W6 w5.heap.size #[S s2, .int .i64 x2, S cl2, .slice A5 ms2.length c5, .int .i64 pa2] := by rw [hw]; exact new_is w5 _ _
  have hB6 : Below w5.heap.size w5 W6 := by rw [hw]; exact up_alloc (Below.refl _ _) _
  replace XI := XI.up xz hB6
  replace xz := Nat.lt_of_lt_of_le xz hB6.size
  replace YI := YI.up yz hB6
  replace yz := Nat.lt_of_lt_of_le yz hB6.size
  replace HRe := Lib.hid (HRe.up hB6)
  replace HV := Lib.hid (RdL.up HV hB6)
  replace hr3 := Lib.hid (hr3.up hB6)
  replace hr5 := Lib.hid (hr5.up hB6)
  replace HW := Lib.hid (up_trans HW hB6)
  have yc := YI.1
  have zc := zI.1
  have SE := Lib.hid (fun (w' : World) (h1 : RdM w' (.slice A3 ms2.length c3) ms2) (h2 : RdM w' (.slice A5 ms2.length c5) ms2) => sameEditor_same (.slice A3 ms2.length c3) (.slice A5 ms2.length c5) ms2 pa2 s2 x2 cl2 w' h1 h2)
  unfold edAgg at SE
  replace XI := Lib.hid XI
  replace YI := Lib.hid YI
  clear hw hB6 zI
  go_wp2_with fail
  refine (SE.out _ hr3.out hr5.out).mono ?_
  rintro e w7 ⟨rfl, hb⟩
  replace XI := XI.out.up xz hb
  replace xz := Nat.lt_of_lt_of_le xz hb.size
  replace YI := YI.out.up yz hb
  replace yz := Nat.lt_of_lt_of_le yz hb.size
  replace HRe := Lib.hid (HRe.out.up hb)
  replace HV := Lib.hid (RdL.up HV.out hb)
  have HRx := Lib.hid (hr3.out.up hb)
  replace HW := Lib.hid (up_trans HW.out hb)
  have xc := XI.1
  clear hb hr5 zc SE hr3
  replace yc := YI.1
  replace YI := Lib.hid YI
  clear XI
  rcases HC.out with ⟨o, hin, h120, hX, hN⟩ | ⟨hX, hN⟩
  · obtain ⟨k, hk⟩ : ∃ k, k = rs.length / 2 := ⟨_, rfl⟩
    have hkN : k ≤ rs.length := by omega
    have ek : (rs.length : Int) / 2 = (k : Int) := by omega
    obtain ⟨ea, oa, ni, nj, hA, hina, hB, hJ, hS⟩ := run_parts hin hkN
    have hnl := runE_le rs ⟨s, x, cl, ms, pa⟩ o
    have hv2 := (runE_in rs hin).ok
    rw [← hX] at hB hv2
    simp only at hv2
    rw [hS] at hN hnl
    have P3 := Lib.hid (fun v lv w' h1 h2 h3 => implEditorRun_yes v lv ⟨s, x, cl, ms, pa⟩ o (rs.take k) w' h1 hin h2 (fun r hr => HR6.out r (List.mem_of_mem_take hr)) (by rw [List.length_take]; omega) h3)
    have P4 := Lib.hid (fun v lv w' h1 h2 h3 => implEditorRun_yes v lv ea oa (rs.drop k) w' h1 hina h2 (fun r hr => HR6.out r (List.mem_of_mem_drop hr)) (by rw [List.length_drop]; omega) h3)
    rw [hA] at P3
    rw [hB, hJ] at P4
    have IV := Lib.hid (fun (w' : World) (h' : RdM w' (.slice A3 ms2.length c3) ms2) => (show Calls Tryz.prog 17 #[.agg #[S s2, .int .i64 x2, S cl2, .slice A3 ms2.length c3, .int .i64 pa2]] w' (fun en w2 => en = .returned (.bool true) ∧ Below w'.heap.size w' w2) from (implEditorValid_any (.slice A3 ms2.length c3) ms2 pa2 s2 x2 cl2 w' h' (by omega) (by have := tv_len (show tv s2 = true from by obtain ⟨o', g⟩ := hv2.1; exact g.t); unfold maxLen; omega) (by have := tv_len hv2.2.2; unfold maxLen; omega)).mono (by
      rintro en w2 ⟨ok, rfl, hh, hb⟩
      rw [hh.2 hv2]
      exact ⟨rfl, hb⟩)))
    have HPa := Lib.hid hina
    obtain ⟨sa, xa, cla, msa, paa⟩ := ea
    unfold ErPost edW edAgg at P3 P4
    simp only at P3 P4
    subst hN
    have hi1 : (ni : Int) ≤ 120 := by omega
    have hi2 : (nj : Int) ≤ 120 := by omega
    have hi3 : ((ni + nj : Nat) : Int) ≤ (rs.length : Int) := by omega
    have hi4 : ¬ ((ni + nj : Nat) : Int) < 0 := by omega
    have hi5 : ((ni + nj : Nat) : Int) = (ni : Int) + (nj : Int) := by omega
    have HS1 := Lib.hid (rdS_takeE HV.out hkN)
    have k0 : (0 : Int) ≤ (k : Int) := by omega
    have kc : (k : Int) ≤ (LC : Int) := by omega
    clear hin hA hina hB hJ hS hX hv2 HC hk hnl
    go_upto_region 11 with (fail)
    --EVER{laws.FnEditorRun;11;er11}
    refine wp_region_everL (R := RX (XE sa xa cla msa paa) w7.heap.size w7.heap.size) (M := fun _ _ => True) 0 (fun _ => True) [(xEq _ _ _ (.agg #[S s, .int .i64 x, S cl, .slice UA ms.length UC, .int .i64 pa])).l, (xEq _ _ _ (.slice LA rs.length LC)).l, (xEq _ _ _ (.int .i64 k)).l, (xSl _ _ _ w7 (rs.take k)).l, (xRow (XE sa xa cla msa paa) _ _ (fun u => .tuple #[.agg #[S sa, .int .i64 xa, S cla, u, .int .i64 paa], .int .i64 ni]) 96 (xe_ne _ _ _ _ _) 7 msa.length (msa.flatMap moC)).l, (xRow (XE sa xa cla msa paa) _ _ (fun u => .tuple #[.agg #[S sa, .int .i64 xa, S cla, u, .int .i64 paa], .int .i64 ni]) 96 (xe_ne _ _ _ _ _) 7 msa.length (msa.flatMap moC)).l, (xRow (XE sa xa cla msa paa) _ _ (fun u => .agg #[S sa, .int .i64 xa, S cla, u, .int .i64 paa]) 96 (xe_ne _ _ _ _ _) 7 msa.length (msa.flatMap moC)).l, (xEq _ _ _ (.int .i64 ni)).l, (xBox (XE sa xa cla msa paa) _ _).l, xPut (XE sa xa cla msa paa) _ _ 10, (xEq _ _ _ (.int .i64 ni)).l] (by kernel_rfl) (RX.refl _ _ _) (fun _ _ _ => RX.trans) (by kernel_rfl) (by kernel_rfl) (trivial) (trivial) ?_ ?_
    · refine ⟨?_, ?_, ?_, ?_, ?_, ?_, ?_, ?_, ?_, ?_, ?_, trivial⟩
      · intro k' w' ρ hk' hR hM hD hF
        replace hk' : k' < 11 := hk'
        obtain ⟨f0, -⟩ := hF
        replace f0 : ρ (.tmp 3) = .pointer (some ⟨d, 0, none⟩) := f0
        refine goodL_of (fun _ => trivial) fun K hK => ?_
        have z0 := (hR.of_drew.cell xz xz  0).trans (xc 0); have z1 := (hR.of_drew.cell xz xz  1).trans (xc 1); have z2 := (hR.of_drew.cell xz xz  2).trans (xc 2); have z3 := (hR.of_drew.cell xz xz  3).trans (xc 3); have z4 := (hR.of_drew.cell xz xz  4).trans (xc 4); go_simp; exact hK _ _ (RX.refl _ _ _ _) (⟨trivial, fun _ h => h⟩) rfl
      · intro k' w' ρ hk' hR hM hD hF
        replace hk' : k' < 11 := hk'
        obtain ⟨f0, -⟩ := hF
        replace f0 : ρ (.tmp 4) = .slice LA rs.length LC := f0
        exact ⟨RX.refl _ _ _ _, ⟨trivial, fun _ h => h⟩, f0, trivial⟩
      · intro k' w' ρ hk' hR hM hD hF
        replace hk' : k' < 11 := hk'
        obtain ⟨f0, -⟩ := hF
        replace f0 : ρ (.tmp 9) = .int .i64 k := f0
        exact ⟨RX.refl _ _ _ _, ⟨trivial, fun _ h => h⟩, f0, trivial⟩
      · intro k' w' ρ hk' hR hM hD hF
        replace hk' : k' < 11 := hk'
        obtain ⟨f0, f1, -⟩ := hF
        replace f0 : ρ (.tmp 62) = .slice LA rs.length LC := f0
        replace f1 : ρ (.tmp 63) = .int .i64 k := f1
        refine goodL_of (fun _ => trivial) fun K hK => ?_
        go_simp; exact hK _ _ (RX.refl _ _ _ _) ⟨trivial, fun _ h => h⟩ ⟨_, _, _, rfl, HS1.out⟩
      · intro k' w' ρ hk' hR hM hD hF
        replace hk' : k' < 11 := hk'
        obtain ⟨f0, f1, f2, -⟩ := hF
        replace f0 : ρ (.func _) = .func (.func _) #[] #[] := f0
        replace f1 : ρ (.tmp 61) = .agg #[S s, .int .i64 x, S cl, .slice UA ms.length UC, .int .i64 pa] := f1
        refine goodL_of (fun _ => trivial) fun K hK => ?_
        obtain ⟨A9, n9, c9, f2, q2⟩ := f2; replace f2 : ρ (.tmp _) = .slice A9 n9 c9 := f2; have Q2 := Lib.hid (RdL.up q2 hR.of_drew.to_below); clear q2; go_simp; refine (P3.out _ _ _ (HRe.out.up hR.of_drew.to_below) Q2.out (HL.out.up (up_trans HW.out hR.of_drew.to_below))).mono ?_; rintro e wc ⟨v0, rfl, ho, hb⟩; exact ⟨_, rfl, hK _ _ (RX.of_below hb) ⟨trivial, fun _ _ => trivial⟩ ⟨v0, rfl, own_base ho hR.size⟩⟩
      · intro k' w' ρ hk' hR hM hD hF
        replace hk' : k' < 11 := hk'
        obtain ⟨f0, -⟩ := hF
        exact ⟨RX.refl _ _ _ _, ⟨trivial, fun _ h => h⟩, f0, trivial⟩
      · intro k' w' ρ hk' hR hM hD hF
        replace hk' : k' < 11 := hk'
        obtain ⟨f0, -⟩ := hF
        refine goodL_of (fun _ => trivial) fun K hK => ?_
        obtain ⟨v0, f0, q0⟩ := f0; replace f0 : ρ (.tmp _) = .tuple #[.agg #[S sa, .int .i64 xa, S cla, v0, .int .i64 paa], .int .i64 ni] := f0; have Q0 := Lib.hid q0; clear q0; go_simp; exact hK _ _ (RX.refl _ _ _ _) ⟨trivial, fun _ h => h⟩ ⟨v0, rfl, Q0.out⟩
      · intro k' w' ρ hk' hR hM hD hF
        replace hk' : k' < 11 := hk'
        obtain ⟨f0, -⟩ := hF
        refine goodL_of (fun _ => trivial) fun K hK => ?_
        obtain ⟨v0, f0, q0⟩ := f0; replace f0 : ρ (.tmp _) = .tuple #[.agg #[S sa, .int .i64 xa, S cla, v0, .int .i64 paa], .int .i64 ni] := f0; have Q0 := Lib.hid q0; clear q0; go_simp; exact hK _ _ (RX.refl _ _ _ _) ⟨trivial, fun _ h => h⟩ rfl
      · intro k' w' ρ hk' hR hM hD hF
        replace hk' : k' < 11 := hk'
        refine goodL_of (fun _ => trivial) fun K hK => ?_
        have hBz : _ ≤ w'.heap.size := hR.size; go_simp; exact hK _ _ (RX.of_below (up_alloc (Below.refl _ _) _)) ⟨trivial, fun _ _ => trivial⟩ ⟨_, rfl, hBz, by simp, (xbox_mk (XE sa xa cla msa paa) _ _ rfl).1, (xbox_mk (XE sa xa cla msa paa) _ _ rfl).2⟩
      · intro k' w' ρ hk' hR hM hD hF
        replace hk' : k' < 11 := hk'
        obtain ⟨f0, f1, -⟩ := hF
        refine goodL_ofs fun K hK => ?_
        obtain ⟨bi, f0, bB, bz, bT, bI⟩ := f0; replace f0 : ρ (.tmp 10) = .pointer (some ⟨bi, 0, none⟩) := f0; obtain ⟨u1, f1, q1⟩ := f1; obtain ⟨A1, c1, rfl, -, -⟩ := (RdL.of_own (f := moC) (bs := msa) q1).form; replace f1 : ρ (.tmp _) = .agg #[S sa, .int .i64 xa, S cla, .slice A1 msa.length c1, .int .i64 paa] := f1; obtain ⟨bK, bG⟩ := xput_mk (X := (XE sa xa cla msa paa)) bT bI q1 bB; obtain ⟨bV, hbV, bI⟩ := bI; obtain ⟨b0, b1, b2, b3, b4, e0, e1, e2, e3, e4⟩ := is_five bI hbV; have qf := bI.2; clear bI q1; go_simp; refine hK _ _ bG ⟨trivial, fun _ _ => trivial⟩ trivial ?_; intro i hi; replace hi := hi.symm.trans f0; cases hi; exact ⟨by simpa [World.setCell] using bz, bK⟩
      · intro k' w' ρ hk' hR hM hD hF
        replace hk' : k' < 11 := hk'
        obtain ⟨f0, -⟩ := hF
        replace f0 : ρ (.tmp 67) = .int .i64 ni := f0
        exact ⟨RX.refl _ _ _ _, ⟨trivial, fun _ h => h⟩, f0, trivial⟩
    · intro w' hR hM
      rintro _ rfl -
      rintro _ rfl -
      rintro _ rfl -
      rintro _ ⟨_, _, _, rfl, -⟩ -
      rintro _ ⟨_, rfl, -⟩ -
      rintro _ ⟨_, rfl, -⟩ -
      rintro _ ⟨_, rfl, -⟩ -
      rintro _ rfl -
      rintro _ ⟨ab, rfl, abB, abz, -, -⟩ -
      rintro _ - abS
      rintro _ rfl -
    --END
    --END
      dsimp only [EndAllL, Act.put]
      simp only [List.setIfInBounds_toArray, List.set_cons_zero, List.set_cons_succ]
      obtain ⟨w8, rfl⟩ : ∃ z, z = w' := ⟨_, rfl⟩
      obtain ⟨abz, hak, V0, ⟨abc, abf⟩, ha0⟩ := abS _ rfl
      replace abc : ∀ o, w8.cell? ⟨ab, o, none⟩ = #[S sa, .int .i64 xa, S cla, V0, .int .i64 paa][o]? := abc
      replace ha0 : OwnM w8 w7.heap.size V0 msa := ha0
      have hb : Below w7.heap.size w7 w8 := hR.of_drew.to_below
      obtain ⟨AA, AC, rfl, -, -⟩ := (RdL.of_own (f := moC) (bs := msa) ha0).form
      have HRa := Lib.hid (show RdM w8 (.slice AA msa.length AC) msa from rdM_good ha0 HPa.out.g)
      replace HV := Lib.hid (RdL.up HV.out hb)
      replace HRx := Lib.hid (HRx.out.up hb)
      replace YI := Lib.hid (YI.out.up yz hb)
      replace yz := Nat.lt_of_lt_of_le yz hb.size
      replace HW := Lib.hid (up_trans HW.out hb)
      clear hR hM hak abS ha0 hb HRe P3 xc yc HS1
      by_cases hz0 : 0 < rs.length
      · obtain ⟨lb, lo, rfl, -, -⟩ := HV.out.cells strC_len hz0
        have HS2 := Lib.hid (rdS_dropE HV.out hkN)
        have hne : ¬ (k : Int) = (LC : Int) := by omega
        have hne2 : ¬ k = LC := by omega
        have hne3 : ¬ LC = k := by omega
        go_upto_region 12 with (fail)
        --EVER{laws.FnEditorRun;12;er12}
        refine wp_region_everL (R := RX (XE s2 x2 cl2 ms2 pa2) w8.heap.size w8.heap.size) (M := fun _ _ => True) 0 (fun _ => True) [(xEq _ _ _ (.agg #[S sa, .int .i64 xa, S cla, .slice AA msa.length AC, .int .i64 paa])).l, (xEq _ _ _ (.slice (some ⟨lb, lo, none⟩) rs.length LC)).l, (xEq _ _ _ (.int .i64 k)).l, (xSl _ _ _ w8 (rs.drop k)).l, (xRow (XE s2 x2 cl2 ms2 pa2) _ _ (fun u => .tuple #[.agg #[S s2, .int .i64 x2, S cl2, u, .int .i64 pa2], .int .i64 nj]) 96 (xe_ne _ _ _ _ _) 7 ms2.length (ms2.flatMap moC)).l, (xRow (XE s2 x2 cl2 ms2 pa2) _ _ (fun u => .tuple #[.agg #[S s2, .int .i64 x2, S cl2, u, .int .i64 pa2], .int .i64 nj]) 96 (xe_ne _ _ _ _ _) 7 ms2.length (ms2.flatMap moC)).l, (xRow (XE s2 x2 cl2 ms2 pa2) _ _ (fun u => .agg #[S s2, .int .i64 x2, S cl2, u, .int .i64 pa2]) 96 (xe_ne _ _ _ _ _) 7 ms2.length (ms2.flatMap moC)).l, (xEq _ _ _ (.int .i64 nj)).l, (xBox (XE s2 x2 cl2 ms2 pa2) _ _).l, xPut (XE s2 x2 cl2 ms2 pa2) _ _ 12, (xEq _ _ _ (.int .i64 nj)).l] (by kernel_rfl) (RX.refl _ _ _) (fun _ _ _ => RX.trans) (by kernel_rfl) (by kernel_rfl) (trivial) (trivial) ?_ ?_
        · refine ⟨?_, ?_, ?_, ?_, ?_, ?_, ?_, ?_, ?_, ?_, ?_, trivial⟩
          · intro k' w' ρ hk' hR hM hD hF
            replace hk' : k' < 11 := hk'
            obtain ⟨f0, -⟩ := hF
            replace f0 : ρ (.tmp 10) = .pointer (some ⟨ab, 0, none⟩) := f0
            refine goodL_of (fun _ => trivial) fun K hK => ?_
            have z0 := (hR.of_drew.cell abz abz  0).trans (abc 0); have z1 := (hR.of_drew.cell abz abz  1).trans (abc 1); have z2 := (hR.of_drew.cell abz abz  2).trans (abc 2); have z3 := (hR.of_drew.cell abz abz  3).trans (abc 3); have z4 := (hR.of_drew.cell abz abz  4).trans (abc 4); go_simp; exact hK _ _ (RX.refl _ _ _ _) (⟨trivial, fun _ h => h⟩) rfl
          · intro k' w' ρ hk' hR hM hD hF
            replace hk' : k' < 11 := hk'
            obtain ⟨f0, -⟩ := hF
            replace f0 : ρ (.tmp 4) = .slice (some ⟨lb, lo, none⟩) rs.length LC := f0
            exact ⟨RX.refl _ _ _ _, ⟨trivial, fun _ h => h⟩, f0, trivial⟩
          · intro k' w' ρ hk' hR hM hD hF
            replace hk' : k' < 11 := hk'
            obtain ⟨f0, -⟩ := hF
            replace f0 : ρ (.tmp 9) = .int .i64 k := f0
            exact ⟨RX.refl _ _ _ _, ⟨trivial, fun _ h => h⟩, f0, trivial⟩
          · intro k' w' ρ hk' hR hM hD hF
            replace hk' : k' < 11 := hk'
            obtain ⟨f0, f1, -⟩ := hF
            replace f0 : ρ (.tmp 70) = .slice (some ⟨lb, lo, none⟩) rs.length LC := f0
            replace f1 : ρ (.tmp 71) = .int .i64 k := f1
            refine goodL_of (fun _ => trivial) fun K hK => ?_
            go_simp; exact hK _ _ (RX.refl _ _ _ _) ⟨trivial, fun _ h => h⟩ ⟨_, _, _, rfl, HS2.out⟩
          · intro k' w' ρ hk' hR hM hD hF
            replace hk' : k' < 11 := hk'
            obtain ⟨f0, f1, f2, -⟩ := hF
            replace f0 : ρ (.func _) = .func (.func _) #[] #[] := f0
            replace f1 : ρ (.tmp 69) = .agg #[S sa, .int .i64 xa, S cla, .slice AA msa.length AC, .int .i64 paa] := f1
            refine goodL_of (fun _ => trivial) fun K hK => ?_
            obtain ⟨A9, n9, c9, f2, q2⟩ := f2; replace f2 : ρ (.tmp _) = .slice A9 n9 c9 := f2; have Q2 := Lib.hid (RdL.up q2 hR.of_drew.to_below); clear q2; go_simp; refine (P4.out _ _ _ (HRa.out.up hR.of_drew.to_below) Q2.out (HL.out.up (up_trans HW.out hR.of_drew.to_below))).mono ?_; rintro e wc ⟨v0, rfl, ho, hb⟩; exact ⟨_, rfl, hK _ _ (RX.of_below hb) ⟨trivial, fun _ _ => trivial⟩ ⟨v0, rfl, own_base ho hR.size⟩⟩
          · intro k' w' ρ hk' hR hM hD hF
            replace hk' : k' < 11 := hk'
            obtain ⟨f0, -⟩ := hF
            exact ⟨RX.refl _ _ _ _, ⟨trivial, fun _ h => h⟩, f0, trivial⟩
          · intro k' w' ρ hk' hR hM hD hF
            replace hk' : k' < 11 := hk'
            obtain ⟨f0, -⟩ := hF
            refine goodL_of (fun _ => trivial) fun K hK => ?_
            obtain ⟨v0, f0, q0⟩ := f0; replace f0 : ρ (.tmp _) = .tuple #[.agg #[S s2, .int .i64 x2, S cl2, v0, .int .i64 pa2], .int .i64 nj] := f0; have Q0 := Lib.hid q0; clear q0; go_simp; exact hK _ _ (RX.refl _ _ _ _) ⟨trivial, fun _ h => h⟩ ⟨v0, rfl, Q0.out⟩
          · intro k' w' ρ hk' hR hM hD hF
            replace hk' : k' < 11 := hk'
            obtain ⟨f0, -⟩ := hF
            refine goodL_of (fun _ => trivial) fun K hK => ?_
            obtain ⟨v0, f0, q0⟩ := f0; replace f0 : ρ (.tmp _) = .tuple #[.agg #[S s2, .int .i64 x2, S cl2, v0, .int .i64 pa2], .int .i64 nj] := f0; have Q0 := Lib.hid q0; clear q0; go_simp; exact hK _ _ (RX.refl _ _ _ _) ⟨trivial, fun _ h => h⟩ rfl
          · intro k' w' ρ hk' hR hM hD hF
            replace hk' : k' < 11 := hk'
            refine goodL_of (fun _ => trivial) fun K hK => ?_
            have hBz : _ ≤ w'.heap.size := hR.size; go_simp; exact hK _ _ (RX.of_below (up_alloc (Below.refl _ _) _)) ⟨trivial, fun _ _ => trivial⟩ ⟨_, rfl, hBz, by simp, (xbox_mk (XE s2 x2 cl2 ms2 pa2) _ _ rfl).1, (xbox_mk (XE s2 x2 cl2 ms2 pa2) _ _ rfl).2⟩
          · intro k' w' ρ hk' hR hM hD hF
            replace hk' : k' < 11 := hk'
            obtain ⟨f0, f1, -⟩ := hF
            refine goodL_ofs fun K hK => ?_
            obtain ⟨bi, f0, bB, bz, bT, bI⟩ := f0; replace f0 : ρ (.tmp 12) = .pointer (some ⟨bi, 0, none⟩) := f0; obtain ⟨u1, f1, q1⟩ := f1; obtain ⟨A1, c1, rfl, -, -⟩ := (RdL.of_own (f := moC) (bs := ms2) q1).form; replace f1 : ρ (.tmp _) = .agg #[S s2, .int .i64 x2, S cl2, .slice A1 ms2.length c1, .int .i64 pa2] := f1; obtain ⟨bK, bG⟩ := xput_mk (X := (XE s2 x2 cl2 ms2 pa2)) bT bI q1 bB; obtain ⟨bV, hbV, bI⟩ := bI; obtain ⟨b0, b1, b2, b3, b4, e0, e1, e2, e3, e4⟩ := is_five bI hbV; have qf := bI.2; clear bI q1; go_simp; refine hK _ _ bG ⟨trivial, fun _ _ => trivial⟩ trivial ?_; intro i hi; replace hi := hi.symm.trans f0; cases hi; exact ⟨by simpa [World.setCell] using bz, bK⟩
          · intro k' w' ρ hk' hR hM hD hF
            replace hk' : k' < 11 := hk'
            obtain ⟨f0, -⟩ := hF
            replace f0 : ρ (.tmp 75) = .int .i64 nj := f0
            exact ⟨RX.refl _ _ _ _, ⟨trivial, fun _ h => h⟩, f0, trivial⟩
        · intro w' hR hM
          rintro _ rfl -
          rintro _ rfl -
          rintro _ rfl -
          rintro _ ⟨_, _, _, rfl, -⟩ -
          rintro _ ⟨_, rfl, -⟩ -
          rintro _ ⟨_, rfl, -⟩ -
          rintro _ ⟨_, rfl, -⟩ -
          rintro _ rfl -
          rintro _ ⟨bb, rfl, bbB, bbz, -, -⟩ -
          rintro _ - bbS
          rintro _ rfl -
        --END
        --END
          dsimp only [EndAllL, Act.put]
          simp only [List.setIfInBounds_toArray, List.set_cons_zero, List.set_cons_succ]
          obtain ⟨w9, rfl⟩ : ∃ z, z = w' := ⟨_, rfl⟩
          obtain ⟨bbz2, hbk, V1, ⟨bbc, bbf⟩, hb0⟩ := bbS _ rfl
          replace bbc : ∀ o, w9.cell? ⟨bb, o, none⟩ = #[S s2, .int .i64 x2, S cl2, V1, .int .i64 pa2][o]? := bbc
          replace hb0 : OwnM w9 w8.heap.size V1 ms2 := hb0
          obtain ⟨BA, BC, rfl, -, -⟩ := (RdL.of_own (f := moC) (bs := ms2) hb0).form
          have hb : Below w8.heap.size w8 w9 := hR.of_drew.to_below
          have HRb := Lib.hid (show RdM w9 (.slice BA ms2.length BC) ms2 from ⟨RdL.of_own hb0, HRx.out.2⟩)
          have yI := YI.out.up (by omega) hb
          have yz9 : p < w9.heap.size := Nat.lt_of_lt_of_le (by omega) hb.size
          have HRx9 := Lib.hid (HRx.out.up hb)
          have HW9 := Lib.hid (up_trans HW.out hb)
          have yc := yI.1
          have SE2 := Lib.hid (fun (w' : World) (h1 : RdM w' (.slice BA ms2.length BC) ms2) (h2 : RdM w' (.slice A3 ms2.length c3) ms2) => sameEditor_same (.slice BA ms2.length BC) (.slice A3 ms2.length c3) ms2 pa2 s2 x2 cl2 w' h1 h2)
          unfold edAgg at SE2
          have YI9 := Lib.hid yI
          clear hR hM hbk bbS hb0 hb abc HRa HW yI YI bbz bbB
          go_upto_region 13 with (fail)
          go_wp2_with fail
          refine (SE2.out _ HRb.out HRx9.out).mono ?_
          rintro e w10 ⟨rfl, hb⟩
          have HRx := Lib.hid (HRx9.out.up hb)
          have HW := Lib.hid (up_trans HW9.out hb)
          have yc := (YI9.out.up yz9 hb).1
          clear hb SE2 HRb HRx9 HW9 YI9 bbc
          go_wp2_with fail
          refine (IV.out _ HRx.out).mono ?_
          rintro e w11 ⟨rfl, hb⟩
          have HW := Lib.hid (up_trans HW.out hb)
          go_wp2_with fail
          go_ret
          exact ⟨rfl, HW.out⟩
      · obtain rfl : rs = [] := List.length_eq_zero_iff.1 (by omega)
        obtain rfl : k = 0 := by simpa using hkN
        simp only [List.length_nil, List.drop_nil] at *
        go_upto_region 12 with (fail)
        --EVER{laws.FnEditorRun;12;er12n}
        refine wp_region_everL (R := RX (XE s2 x2 cl2 ms2 pa2) w8.heap.size w8.heap.size) (M := fun _ _ => True) 0 (fun _ => True) [(xEq _ _ _ (.agg #[S sa, .int .i64 xa, S cla, .slice AA msa.length AC, .int .i64 paa])).l, (xEq _ _ _ (.slice LA 0 LC)).l, (xEq _ _ _ (.int .i64 (0 : Nat))).l, (xSl _ _ _ w8 []).l, (xRow (XE s2 x2 cl2 ms2 pa2) _ _ (fun u => .tuple #[.agg #[S s2, .int .i64 x2, S cl2, u, .int .i64 pa2], .int .i64 nj]) 96 (xe_ne _ _ _ _ _) 7 ms2.length (ms2.flatMap moC)).l, (xRow (XE s2 x2 cl2 ms2 pa2) _ _ (fun u => .tuple #[.agg #[S s2, .int .i64 x2, S cl2, u, .int .i64 pa2], .int .i64 nj]) 96 (xe_ne _ _ _ _ _) 7 ms2.length (ms2.flatMap moC)).l, (xRow (XE s2 x2 cl2 ms2 pa2) _ _ (fun u => .agg #[S s2, .int .i64 x2, S cl2, u, .int .i64 pa2]) 96 (xe_ne _ _ _ _ _) 7 ms2.length (ms2.flatMap moC)).l, (xEq _ _ _ (.int .i64 nj)).l, (xBox (XE s2 x2 cl2 ms2 pa2) _ _).l, xPut (XE s2 x2 cl2 ms2 pa2) _ _ 12, (xEq _ _ _ (.int .i64 nj)).l] (by kernel_rfl) (RX.refl _ _ _) (fun _ _ _ => RX.trans) (by kernel_rfl) (by kernel_rfl) (trivial) (trivial) ?_ ?_
        · refine ⟨?_, ?_, ?_, ?_, ?_, ?_, ?_, ?_, ?_, ?_, ?_, trivial⟩
          · intro k' w' ρ hk' hR hM hD hF
            replace hk' : k' < 11 := hk'
            obtain ⟨f0, -⟩ := hF
            replace f0 : ρ (.tmp 10) = .pointer (some ⟨ab, 0, none⟩) := f0
            refine goodL_of (fun _ => trivial) fun K hK => ?_
            have z0 := (hR.of_drew.cell abz abz  0).trans (abc 0); have z1 := (hR.of_drew.cell abz abz  1).trans (abc 1); have z2 := (hR.of_drew.cell abz abz  2).trans (abc 2); have z3 := (hR.of_drew.cell abz abz  3).trans (abc 3); have z4 := (hR.of_drew.cell abz abz  4).trans (abc 4); go_simp; exact hK _ _ (RX.refl _ _ _ _) (⟨trivial, fun _ h => h⟩) rfl
          · intro k' w' ρ hk' hR hM hD hF
            replace hk' : k' < 11 := hk'
            obtain ⟨f0, -⟩ := hF
            replace f0 : ρ (.tmp 4) = .slice LA 0 LC := f0
            exact ⟨RX.refl _ _ _ _, ⟨trivial, fun _ h => h⟩, f0, trivial⟩
          · intro k' w' ρ hk' hR hM hD hF
            replace hk' : k' < 11 := hk'
            obtain ⟨f0, -⟩ := hF
            replace f0 : ρ (.tmp 9) = .int .i64 (0 : Nat) := f0
            exact ⟨RX.refl _ _ _ _, ⟨trivial, fun _ h => h⟩, f0, trivial⟩
          · intro k' w' ρ hk' hR hM hD hF
            replace hk' : k' < 11 := hk'
            obtain ⟨f0, f1, -⟩ := hF
            replace f0 : ρ (.tmp 70) = .slice LA 0 LC := f0
            replace f1 : ρ (.tmp 71) = .int .i64 (0 : Nat) := f1
            refine goodL_of (fun _ => trivial) fun K hK => ?_
            go_simp; exact hK _ _ (RX.refl _ _ _ _) ⟨trivial, fun _ h => h⟩ ⟨_, _, _, rfl, rdS_nilE _ _ _⟩
          · intro k' w' ρ hk' hR hM hD hF
            replace hk' : k' < 11 := hk'
            obtain ⟨f0, f1, f2, -⟩ := hF
            replace f0 : ρ (.func _) = .func (.func _) #[] #[] := f0
            replace f1 : ρ (.tmp 69) = .agg #[S sa, .int .i64 xa, S cla, .slice AA msa.length AC, .int .i64 paa] := f1
            refine goodL_of (fun _ => trivial) fun K hK => ?_
            obtain ⟨A9, n9, c9, f2, q2⟩ := f2; replace f2 : ρ (.tmp _) = .slice A9 n9 c9 := f2; have Q2 := Lib.hid (RdL.up q2 hR.of_drew.to_below); clear q2; go_simp; refine (P4.out _ _ _ (HRa.out.up hR.of_drew.to_below) Q2.out (HL.out.up (up_trans HW.out hR.of_drew.to_below))).mono ?_; rintro e wc ⟨v0, rfl, ho, hb⟩; exact ⟨_, rfl, hK _ _ (RX.of_below hb) ⟨trivial, fun _ _ => trivial⟩ ⟨v0, rfl, own_base ho hR.size⟩⟩
          · intro k' w' ρ hk' hR hM hD hF
            replace hk' : k' < 11 := hk'
            obtain ⟨f0, -⟩ := hF
            exact ⟨RX.refl _ _ _ _, ⟨trivial, fun _ h => h⟩, f0, trivial⟩
          · intro k' w' ρ hk' hR hM hD hF
            replace hk' : k' < 11 := hk'
            obtain ⟨f0, -⟩ := hF
            refine goodL_of (fun _ => trivial) fun K hK => ?_
            obtain ⟨v0, f0, q0⟩ := f0; replace f0 : ρ (.tmp _) = .tuple #[.agg #[S s2, .int .i64 x2, S cl2, v0, .int .i64 pa2], .int .i64 nj] := f0; have Q0 := Lib.hid q0; clear q0; go_simp; exact hK _ _ (RX.refl _ _ _ _) ⟨trivial, fun _ h => h⟩ ⟨v0, rfl, Q0.out⟩
          · intro k' w' ρ hk' hR hM hD hF
            replace hk' : k' < 11 := hk'
            obtain ⟨f0, -⟩ := hF
            refine goodL_of (fun _ => trivial) fun K hK => ?_
            obtain ⟨v0, f0, q0⟩ := f0; replace f0 : ρ (.tmp _) = .tuple #[.agg #[S s2, .int .i64 x2, S cl2, v0, .int .i64 pa2], .int .i64 nj] := f0; have Q0 := Lib.hid q0; clear q0; go_simp; exact hK _ _ (RX.refl _ _ _ _) ⟨trivial, fun _ h => h⟩ rfl
          · intro k' w' ρ hk' hR hM hD hF
            replace hk' : k' < 11 := hk'
            refine goodL_of (fun _ => trivial) fun K hK => ?_
            have hBz : _ ≤ w'.heap.size := hR.size; go_simp; exact hK _ _ (RX.of_below (up_alloc (Below.refl _ _) _)) ⟨trivial, fun _ _ => trivial⟩ ⟨_, rfl, hBz, by simp, (xbox_mk (XE s2 x2 cl2 ms2 pa2) _ _ rfl).1, (xbox_mk (XE s2 x2 cl2 ms2 pa2) _ _ rfl).2⟩
          · intro k' w' ρ hk' hR hM hD hF
            replace hk' : k' < 11 := hk'
            obtain ⟨f0, f1, -⟩ := hF
            refine goodL_ofs fun K hK => ?_
            obtain ⟨bi, f0, bB, bz, bT, bI⟩ := f0; replace f0 : ρ (.tmp 12) = .pointer (some ⟨bi, 0, none⟩) := f0; obtain ⟨u1, f1, q1⟩ := f1; obtain ⟨A1, c1, rfl, -, -⟩ := (RdL.of_own (f := moC) (bs := ms2) q1).form; replace f1 : ρ (.tmp _) = .agg #[S s2, .int .i64 x2, S cl2, .slice A1 ms2.length c1, .int .i64 pa2] := f1; obtain ⟨bK, bG⟩ := xput_mk (X := (XE s2 x2 cl2 ms2 pa2)) bT bI q1 bB; obtain ⟨bV, hbV, bI⟩ := bI; obtain ⟨b0, b1, b2, b3, b4, e0, e1, e2, e3, e4⟩ := is_five bI hbV; have qf := bI.2; clear bI q1; go_simp; refine hK _ _ bG ⟨trivial, fun _ _ => trivial⟩ trivial ?_; intro i hi; replace hi := hi.symm.trans f0; cases hi; exact ⟨by simpa [World.setCell] using bz, bK⟩
          · intro k' w' ρ hk' hR hM hD hF
            replace hk' : k' < 11 := hk'
            obtain ⟨f0, -⟩ := hF
            replace f0 : ρ (.tmp 75) = .int .i64 nj := f0
            exact ⟨RX.refl _ _ _ _, ⟨trivial, fun _ h => h⟩, f0, trivial⟩
        · intro w' hR hM
          rintro _ rfl -
          rintro _ rfl -
          rintro _ rfl -
          rintro _ ⟨_, _, _, rfl, -⟩ -
          rintro _ ⟨_, rfl, -⟩ -
          rintro _ ⟨_, rfl, -⟩ -
          rintro _ ⟨_, rfl, -⟩ -
          rintro _ rfl -
          rintro _ ⟨bb, rfl, bbB, bbz, -, -⟩ -
          rintro _ - bbS
          rintro _ rfl -
        --END
        --END
          dsimp only [EndAllL, Act.put]
          simp only [List.setIfInBounds_toArray, List.set_cons_zero, List.set_cons_succ]
          obtain ⟨w9, rfl⟩ : ∃ z, z = w' := ⟨_, rfl⟩
          obtain ⟨bbz2, hbk, V1, ⟨bbc, bbf⟩, hb0⟩ := bbS _ rfl
          replace bbc : ∀ o, w9.cell? ⟨bb, o, none⟩ = #[S s2, .int .i64 x2, S cl2, V1, .int .i64 pa2][o]? := bbc
          replace hb0 : OwnM w9 w8.heap.size V1 ms2 := hb0
          obtain ⟨BA, BC, rfl, -, -⟩ := (RdL.of_own (f := moC) (bs := ms2) hb0).form
          have hb : Below w8.heap.size w8 w9 := hR.of_drew.to_below
          have HRb := Lib.hid (show RdM w9 (.slice BA ms2.length BC) ms2 from ⟨RdL.of_own hb0, HRx.out.2⟩)
          have yI := YI.out.up (by omega) hb
          have yz9 : p < w9.heap.size := Nat.lt_of_lt_of_le (by omega) hb.size
          have HRx9 := Lib.hid (HRx.out.up hb)
          have HW9 := Lib.hid (up_trans HW.out hb)
          have yc := yI.1
          have SE2 := Lib.hid (fun (w' : World) (h1 : RdM w' (.slice BA ms2.length BC) ms2) (h2 : RdM w' (.slice A3 ms2.length c3) ms2) => sameEditor_same (.slice BA ms2.length BC) (.slice A3 ms2.length c3) ms2 pa2 s2 x2 cl2 w' h1 h2)
          unfold edAgg at SE2
          have YI9 := Lib.hid yI
          clear hR hM hbk bbS hb0 hb abc HRa HW yI YI bbz bbB
          go_upto_region 13 with (fail)
          go_wp2_with fail
          refine (SE2.out _ HRb.out HRx9.out).mono ?_
          rintro e w10 ⟨rfl, hb⟩
          have HRx := Lib.hid (HRx9.out.up hb)
          have HW := Lib.hid (up_trans HW9.out hb)
          have yc := (YI9.out.up yz9 hb).1
          clear hb SE2 HRb HRx9 HW9 YI9 bbc
          go_wp2_with fail
          refine (IV.out _ HRx.out).mono ?_
          rintro e w11 ⟨rfl, hb⟩
          have HW := Lib.hid (up_trans HW.out hb)
          go_wp2_with fail
          go_ret
          exact ⟨rfl, HW.out⟩
  · subst hN
    injection hX with q1 q2 q3 q4 q5
    subst q1 q2 q3 q4 q5
    go_wp2_with fail
    refine (alive_any _).mono ?_
    rintro e w8 ⟨rfl, rfl⟩
    go_wp2_with fail
    go_ret
    exact ⟨rfl, HW.out⟩

end Go.Proofs.YtbjlkdenkmbepaaGreatDoor
