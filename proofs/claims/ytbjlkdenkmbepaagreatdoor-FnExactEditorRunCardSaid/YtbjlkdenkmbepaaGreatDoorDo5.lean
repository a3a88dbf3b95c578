/- What is proved here: What is proved here: HistoryDo in the program, when it is done. What is proved here: words for the law on drawn regions that store, in a new box, a history that a call in the region made. What is proved here: contracts of the program's change and put on an editor. No condition. -/
import Derived.Test.YtbjlkdenkmbepaaGreatDoorHistJ
import Derived.Test.YtbjlkdenkmbepaaGreatDoorEverL
import Derived.Test.YtbjlkdenkmbepaaGreatDoorHistF
import Derived.Test.YtbjlkdenkmbepaaGreatDoorDo4
import Derived.BigRegion
namespace Go.Proofs.YtbjlkdenkmbepaaGreatDoor
open Go.RowKit
set_option linter.unusedVariables false

set_option maxRecDepth 100000 in
set_option maxHeartbeats 1000000 in
theorem implHistoryDo_done (v : Value) (ms : List Mo) (a : Int) (s : List UInt8) (x : Ch) (w : World) (o : List (List UInt8)) (h : RdM w v ms) (hg : HGood ms a s o) (hp : x.p.length ≤ 1048576) (hok : okF s x = true) (h30 : ms.length ≠ 30) :
    Calls Tryz.prog 146 #[.agg #[v, .int .i64 a], S s, chAgg x] w (HRes (ms ++ [⟨a, x, rvF s x⟩]) ms.length (apF s x) true w) := by
  have hn30 := hg.n30
  have hn1 := hg.n1
  have hsl := tv_len hg.t
  obtain ⟨A, c, rfl, _, _⟩ := h.1.form
  have T := Lib.hid (fun (w' : World) (hb : Below w.heap.size w w') => implHistoryValid_any (.slice A ms.length c) ms a s w' (h.up hb) (by omega) (by unfold maxLen; omega))
  have C := Lib.hid (fun (w' : World) (hb : Below w.heap.size w w') => clone_any (.slice A ms.length c) ms a w' (h.up hb) (by omega))
  have R := Lib.hid (fun w' => implReverse_any s x w' hg.t hp)
  have Q := Lib.hid (fun w' => applyF_any s x w' hg.t hp)
  have hRp : (rvF s x).p.length ≤ 1048576 := by unfold rvF; simp only [List.length_take, List.length_drop]; omega
  unfold AplPost at Q
  rw [hok] at Q
  generalize apF s x = y at *
  unfold RvPost at R
  rw [hok] at R
  simp only [if_true] at R
  generalize rvF s x = rv at *
  obtain ⟨ra, rc, rp⟩ := rv
  obtain ⟨fa, fc, fp⟩ := x
  unfold chAgg at R ⊢
  simp only at Q hRp
  unfold chAgg at Q
  simp only at Q
  simp only at R
  have HG := Lib.hid hg
  have HMP := Lib.hid (show ∀ m ∈ ms ++ [(⟨a, ⟨fa, fc, fp⟩, ⟨ra, rc, rp⟩⟩ : Mo)], m.f.p.length ≤ 1048576 ∧ m.b.p.length ≤ 1048576 from fun m hm => by rw [List.mem_append] at hm; rcases hm with hm | hm; exact h.2 m hm; rw [List.mem_singleton] at hm; subst hm; exact ⟨hp, hRp⟩)
  clear h hg hok hp hRp
  have h31 : ((ms.length : Int) == 30) = false := beq_eq_false_iff_ne.2 (by omega)
  obtain ⟨i0, hi, hz0, hz1, hz2⟩ := info_parts mo_info
  unfold HRes
  go_enter Tryz.func146, Tryz.ntmps146
  go_wp2_with fail
  refine (T.out _ (by exact bBel)).mono ?_
  rintro e w1 ⟨ok, rfl, hh, hb⟩
  obtain rfl : ok = true := hh.2 ⟨o, HG.out⟩
  have xc : ∀ o, w1.cell? ⟨w.heap.size, o, none⟩ = #[.slice A ms.length c, .int .i64 a][o]? := (fun o => (hb.cell (p := ⟨w.heap.size, o, none⟩) (by simp <;> omega)).trans (by simp [go_sem])); have xf : ∀ o, w1.frozen? ⟨w.heap.size, o, none⟩ = false := (fun o => (hb.frozen (p := ⟨w.heap.size, o, none⟩) (by simp <;> omega)).trans (by simp [go_sem])); have xz : w.heap.size < w1.heap.size := (by have := hb.size; (try simp at this); omega); have xy := xz
  have dc : ∀ o, w1.cell? ⟨w.heap.size + 1, o, none⟩ = #[.int .i64 fa, .int .i64 fc, S fp][o]? := (fun o => (hb.cell (p := ⟨w.heap.size + 1, o, none⟩) (by simp <;> omega)).trans (by simp [go_sem])); have df : ∀ o, w1.frozen? ⟨w.heap.size + 1, o, none⟩ = false := (fun o => (hb.frozen (p := ⟨w.heap.size + 1, o, none⟩) (by simp <;> omega)).trans (by simp [go_sem])); have dz : w.heap.size + 1 < w1.heap.size := (by have := hb.size; (try simp at this); omega); have dy := dz
  have yc : ∀ o, w1.cell? ⟨w.heap.size + 2, o, none⟩ = #[.slice none 0 0, .int .i64 0][o]? := (fun o => (hb.cell (p := ⟨w.heap.size + 2, o, none⟩) (by simp <;> omega)).trans (by simp [go_sem])); have yf : ∀ o, w1.frozen? ⟨w.heap.size + 2, o, none⟩ = false := (fun o => (hb.frozen (p := ⟨w.heap.size + 2, o, none⟩) (by simp <;> omega)).trans (by simp [go_sem])); have yz : w.heap.size + 2 < w1.heap.size := (by have := hb.size; (try simp at this); omega); have yy := yz
  have hW : Below w.heap.size w w1 := by exact bBel
  have hs1 : w.heap.size + 3 ≤ w1.heap.size := by omega
  clear hb hh T xy dy yy
  go_wp2_with fail
  refine (C.out _ (by exact bBel)).mono ?_
  rintro e w2 ⟨v2, rfl, ho2, hb⟩
  have hB : Below w1.heap.size w1 w2 := (by exact bBel); replace xc := up_c hB xz xc; replace xf := up_f hB xz xf; replace xz := Nat.lt_of_lt_of_le xz hB.size; replace dc := up_c hB dz dc; replace df := up_f hB dz df; replace dz := Nat.lt_of_lt_of_le dz hB.size; replace yc := up_c hB yz yc; replace yf := up_f hB yz yf; replace yz := Nat.lt_of_lt_of_le yz hB.size; have sw2 := hB.size; replace hW := up_trans hW hB; clear hB
  have HO := Lib.hid (own_base ho2 hs1)
  obtain ⟨A2, c2, rfl, -, -⟩ := (RdL.of_own (f := moC) (bs := ms) ho2).form
  have hs2 : w.heap.size + 3 ≤ w2.heap.size := by have := hb.size; omega
  have HOL := Lib.hid (fun g hg => (HO.out.lt g hg).2)
  clear hb ho2 C hs1
  have ne1 : ¬ w2.heap.size = w.heap.size + 1 := by omega
  have ne2 : ¬ w.heap.size + 1 = w2.heap.size := by omega
  go_wp2_with fail
  refine (R.out _).mono ?_
  rintro e w3 ⟨rfl, hb⟩
  have zc : ∀ o, w3.cell? ⟨w2.heap.size, o, none⟩ = #[.slice A2 ms.length c2, .int .i64 a][o]? := (fun o => (hb.cell (p := ⟨w2.heap.size, o, none⟩) (by simp <;> omega)).trans (by simp [go_sem])); have zf : ∀ o, w3.frozen? ⟨w2.heap.size, o, none⟩ = false := (fun o => (hb.frozen (p := ⟨w2.heap.size, o, none⟩) (by simp <;> omega)).trans (by simp [go_sem])); have zz : w2.heap.size < w3.heap.size := (by have := hb.size; (try simp at this); omega); have zy := zz
  have hB : Below w2.heap.size w2 w3 := by exact bBel
  replace xc := up_c hB xz xc
  replace xf := up_f hB xz xf
  replace dc := up_c hB dz dc
  replace df := up_f hB dz df
  replace yc := up_c hB yz yc
  replace yf := up_f hB yz yf
  replace xz := Nat.lt_of_lt_of_le xz hB.size
  replace dz := Nat.lt_of_lt_of_le dz hB.size
  replace yz := Nat.lt_of_lt_of_le yz hB.size
  replace hW := up_trans hW hB
  replace HO := Lib.hid (own_up HO.out hB)
  clear hb hB zy
  go_wp2_with fail
  refine (Q.out _).mono ?_
  rintro e w5 ⟨tq, rfl, htq, hb⟩
  have uc : ∀ o, w5.cell? ⟨w3.heap.size, o, none⟩ = #[.int .i64 ra, .int .i64 rc, S rp][o]? := (fun o => (hb.cell (p := ⟨w3.heap.size, o, none⟩) (by simp <;> omega)).trans (by simp [go_sem])); have uf : ∀ o, w5.frozen? ⟨w3.heap.size, o, none⟩ = false := (fun o => (hb.frozen (p := ⟨w3.heap.size, o, none⟩) (by simp <;> omega)).trans (by simp [go_sem])); have uz : w3.heap.size < w5.heap.size := (by have := hb.size; (try simp at this); omega); have uy := uz
  have hB : Below w3.heap.size w3 w5 := by exact bBel
  replace xc := up_c hB xz xc
  replace xf := up_f hB xz xf
  replace dc := up_c hB dz dc
  replace df := up_f hB dz df
  replace yc := up_c hB yz yc
  replace yf := up_f hB yz yf
  replace xz := Nat.lt_of_lt_of_le xz hB.size
  replace dz := Nat.lt_of_lt_of_le dz hB.size
  replace yz := Nat.lt_of_lt_of_le yz hB.size
  replace hW := up_trans hW hB
  replace HO := Lib.hid (own_up HO.out hB)
  replace zc := up_c hB zz zc
  replace zf := up_f hB zz zf
  replace zz := Nat.lt_of_lt_of_le zz hB.size
  obtain rfl := htq trivial
  clear hb hB uy htq
  have hA1 : Below w5.heap.size w5 (w5.alloc (.cells #[.int .i64 a, .int .i64 fa, .int .i64 fc, S fp, .int .i64 ra, .int .i64 rc, S rp] 96)) := up_alloc (Below.refl _ _) _
  have hne1 : ∀ b, (b < w.heap.size + 3 ∨ b = w2.heap.size) → ∀ g, Value.ownBlock (.slice A2 ms.length c2) = some g → b ≠ g := fun b hb g hg => by have := HOL.out g hg; have := (HO.out.lt g hg).1; omega
  have hge : ∀ g, Value.ownBlock (.slice A2 ms.length c2) = some g → w.heap.size ≤ g := fun g hg => by have := (HO.out.lt g hg).1; omega
  have HN := Lib.hid hne1
  have HGE := Lib.hid hge
  have HA1 := Lib.hid hA1
  have n5 : (w5.alloc (.cells #[.int .i64 a, .int .i64 fa, .int .i64 fc, S fp, .int .i64 ra, .int .i64 rc, S rp] 96)).heap.size = w5.heap.size + 1 := by simp
  have N5 := Lib.hid n5
  have XC := Lib.hid (And.intro yc (And.intro yf (And.intro zc (And.intro zf hW))))
  clear df xf hne1 hge hA1 n5
  go_wp2_with (at_builtin; refine wpList_append_own_at _ rfl _ _ 23 rfl (w.heap.size + 3) 96 i0 _ 7 72 Tryz.underlying23 hi hz0 hz1 hz2 rfl (by decide) _ _ _ rfl (HO.out.alloc _) ⟨w5.heap.size, 0, none⟩ 1 1 [.int .i64 a, .int .i64 fa, .int .i64 fc, S fp, .int .i64 ra, .int .i64 rc, S rp] rfl rfl (cells_new _ _ _) (by intro u hu; simp at hu; rcases hu with rfl | rfl | rfl | rfl | rfl | rfl | rfl <;> rfl) (by unfold maxLen; omega) (by omega) (by simp; omega) ?_; intro v6 w6 how hgr _ hob; have HV := Lib.hid (show ∀ g, v6.ownBlock = some g → g ≠ w2.heap.size from fun g hg => hob.elim (fun h e => HN.out _ (Or.inr rfl) g (h.symm.trans hg) e.symm) (fun h e => by have h2 := h.symm.trans hg; injection h2 with h3; rw [N5.out] at h3; omega)); clear hob; have hgr2 : World.grownBy (w5.alloc (.cells #[.int .i64 a, .int .i64 fa, .int .i64 fc, S fp, .int .i64 ra, .int .i64 rc, S rp] 96)) w6 (Value.ownBlock (.slice A2 ms.length c2)) := hgr; obtain ⟨yc0, yf0, zc0, zf0, hW0⟩ := XC.out; replace yc := upg_c hgr2 (by rw [N5.out]; omega) (HN.out _ (Or.inl (by omega))) (up_c HA1.out yz yc0); replace yf := upg_f hgr2 (by rw [N5.out]; omega) (HN.out _ (Or.inl (by omega))) (up_f HA1.out yz yf0); replace zc := upg_c hgr2 (by rw [N5.out]; omega) (HN.out _ (Or.inr rfl)) (up_c HA1.out zz zc0); replace zf := upg_f hgr2 (by rw [N5.out]; omega) (HN.out _ (Or.inr rfl)) (up_f HA1.out zz zf0); have hW6 : Below w.heap.size w w6 := up_grown (up_trans hW0 HA1.out) hgr2 HGE.out; have sz6 : w5.heap.size ≤ w6.heap.size := (by have := hgr2.size; rw [N5.out] at this; omega); have HX := Lib.hid (show Own w6 (w.heap.size + 3) 96 7 v6 (ms ++ [(⟨a, ⟨fa, fc, fp⟩, ⟨ra, rc, rp⟩⟩ : Mo)]).length ((ms ++ [(⟨a, ⟨fa, fc, fp⟩, ⟨ra, rc, rp⟩⟩ : Mo)]).flatMap moC) by rw [List.length_append, List.flatMap_append]; exact how); obtain ⟨A6, c6, hv6, -, -⟩ := (RdL.of_own (f := moC) HX.out).form; rw [List.length_append] at hv6; replace hv6 : v6 = .slice A6 (ms.length + 1) c6 := hv6; subst hv6; have xz6 : w.heap.size + 2 < w6.heap.size := (by omega); have zz6 : w2.heap.size < w6.heap.size := (by omega); clear hgr hgr2 how XC hW yc0 yf0 zc0 zf0 hW0 xc dc uc uf uz)
  have ne3 : ¬ w2.heap.size = w.heap.size + 2 := by omega
  have ne4 : ¬ w.heap.size + 2 = w2.heap.size := by omega
  go_wp2_with fail
  have HX2 := Lib.hid (own_setn (own_setn HX.out ⟨w2.heap.size, 0, none⟩ (.slice A6 (ms.length + 1) c6) (fun g hg => HV.out g hg)) ⟨w2.heap.size, 1, none⟩ (.int .i64 ms.length) (fun g hg => HV.out g hg))
  refine (clone_any _ (ms ++ [(⟨a, ⟨fa, fc, fp⟩, ⟨ra, rc, rp⟩⟩ : Mo)]) ms.length _ ⟨RdL.of_own (f := moC) HX2.out, HMP.out⟩ (by simp; omega)).mono ?_
  rintro e w7 ⟨v7, rfl, ho7, hb⟩
  have hW7 : Below w.heap.size w w7 := up_trans (by exact bBel) hb
  have ys1 : ∀ o, ((w6.setCell ⟨w2.heap.size, 0, none⟩ (.slice A6 (ms.length + 1) c6)).setCell ⟨w2.heap.size, 1, none⟩ (.int .i64 ms.length)).cell? ⟨w.heap.size + 2, o, none⟩ = (#[.slice none 0 0, .int .i64 0] : Array Value)[o]? := fun o => (World.cell?_of_block (a := ⟨w.heap.size + 2, o, none⟩) (by rw [Below.heap_setCell _ _ _ _ (by simp; omega), Below.heap_setCell _ _ _ _ (by simp; omega)])).trans (yc o)
  have yf1 : ∀ o, ((w6.setCell ⟨w2.heap.size, 0, none⟩ (.slice A6 (ms.length + 1) c6)).setCell ⟨w2.heap.size, 1, none⟩ (.int .i64 ms.length)).frozen? ⟨w.heap.size + 2, o, none⟩ = false := fun o => (World.frozen?_of_block (a := ⟨w.heap.size + 2, o, none⟩) (by rw [Below.heap_setCell _ _ _ _ (by simp; omega), Below.heap_setCell _ _ _ _ (by simp; omega)])).trans (yf o)
  replace yc := up_c hb (by simp; omega) ys1
  replace yf := up_f hb (by simp; omega) yf1
  have yz7 : w.heap.size + 2 < w7.heap.size := by have := hb.size; simp at this; omega
  have HO7 := Lib.hid (own_base (base' := w.heap.size + 3) ho7 (by simp; omega))
  obtain ⟨A7, c7, hv7, -, -⟩ := (RdL.of_own (f := moC) HO7.out).form
  rw [List.length_append] at hv7
  replace hv7 : v7 = .slice A7 (ms.length + 1) c7 := hv7
  subst hv7
  clear hb ho7 ys1 yf1 HX2
  go_wp2_with fail
  refine bodyPost_ret (v := .tuple #[.agg #[.slice A7 (ms.length + 1) c7, .int .i64 ms.length], S tq, .bool true]) (by simp [results, Tryz.results146, go_sem, yc]) rfl ⟨_, rfl, ?_, by have hQ := hW7; exact bBel⟩
  exact own_base (own_set (own_set HO7.out _ _ (by simp)) _ _ (by simp)) (by omega)

end Go.Proofs.YtbjlkdenkmbepaaGreatDoor

namespace Go.Proofs.YtbjlkdenkmbepaaGreatDoor
open Go.RowKit
set_option linter.unusedVariables false

/-- block i is a history's box, and holds a history of the states ms. -/
def BoxH (base : Nat) (ms : List Mo) (a : Int) (w : World) (i : Nat) : Prop :=
  (∃ A, w.heap[i]? = some (.cells A 25 (0, 0))) ∧ ∃ v, Is w i #[v, .int .i64 a] ∧ OwnM w base v ms
/-- the world goes on: a block that was there is as it was, or it is a new history's box, that holds a history of ms now. -/
structure RH (B base : Nat) (ms : List Mo) (x : Int) (a b : World) : Prop where
  os : b.os = a.os
  tape : b.tape = a.tape
  output : b.output = a.output
  size : a.heap.size ≤ b.heap.size
  block : ∀ i, i < a.heap.size → b.heap[i]? = a.heap[i]? ∨ (B ≤ i ∧ (∃ A, a.heap[i]? = some (.cells A 25 (0, 0))) ∧ BoxH base ms x b i)
section
variable {B base : Nat} {ms : List Mo} {x : Int} {a b c : World}
theorem RH.own {bs : Nat} {v : Value} {xs : List Value} {n : Nat} (h : RH B base ms x a b) (ho : Own a bs 96 7 v n xs) : Own b bs 96 7 v n xs := by
  refine ⟨ho.1, ?_⟩
  rcases ho.2 with hn | ⟨g, cap, cur, rfl, hbg, hgg, rest⟩
  · exact .inl hn
  · refine .inr ⟨g, cap, cur, rfl, hbg, ?_, rest⟩
    rcases h.block g (Array.getElem?_eq_some_iff.1 hgg).1 with h1 | ⟨_, ⟨A, h2⟩, _⟩
    · rw [h1]; exact hgg
    · rw [hgg] at h2
      injection h2 with h2
      injection h2 with _ h3 _
      exact absurd h3 (by decide)
theorem RH.box {ms' : List Mo} {y : Int} {bs : Nat} (h : RH B base ms x a b) {i : Nat} (hi : i < a.heap.size) (hk : BoxH bs ms' y a i) : BoxH bs ms' y b i ∨ BoxH base ms x b i := by
  obtain ⟨⟨A, hA⟩, v, hv, ho⟩ := hk
  rcases h.block i hi with h1 | ⟨_, _, h2⟩
  · exact .inl ⟨⟨A, h1.trans hA⟩, v, hv.of_block h1, h.own ho⟩
  · exact .inr h2
theorem RH.refl (B base : Nat) (ms : List Mo) (x : Int) (a : World) : RH B base ms x a a := ⟨rfl, rfl, rfl, Nat.le_refl _, fun _ _ => .inl rfl⟩
theorem RH.trans (h : RH B base ms x a b) (k : RH B base ms x b c) : RH B base ms x a c := ⟨k.os.trans h.os, k.tape.trans h.tape, k.output.trans h.output, Nat.le_trans h.size k.size, fun i hi => by
  have hib := Nat.lt_of_lt_of_le hi h.size
  rcases h.block i hi with h1 | ⟨h1, h2, h3⟩
  · rcases k.block i hib with k1 | ⟨k1, ⟨A, k2⟩, k3⟩
    · exact .inl (k1.trans h1)
    · exact .inr ⟨k1, ⟨A, h1.symm.trans k2⟩, k3⟩
  · rcases k.box hib h3 with h4 | h4 <;> exact .inr ⟨h1, h2, h4⟩⟩
theorem RH.below (h : RH B base ms x a b) (k : Below b.heap.size b c) : RH B base ms x a c := h.trans ⟨k.os, k.tape, k.output, k.size, fun i hi => .inl (k.block i hi)⟩
theorem RH.of_below (k : Below b.heap.size b c) : RH B base ms x b c := (RH.refl _ _ _ _ _).below k
theorem RH.of_drew (h : RH B base ms x a.drew b) : RH B base ms x a b := ⟨h.os, h.tape, h.output, h.size, h.block⟩
theorem RH.to_below (h : RH a.heap.size base ms x a b) : Below a.heap.size a b := ⟨h.os, h.tape, h.output, h.size, fun i hi => by
  rcases h.block i hi with h1 | ⟨h1, _⟩
  · exact h1
  · omega⟩
theorem RH.same (h : RH B base ms x a b) {i : Nat} (hi : i < a.heap.size) (hB : i < B) : b.heap[i]? = a.heap[i]? := by
  rcases h.block i hi with h1 | ⟨h1, _⟩
  · exact h1
  · omega
theorem RH.cell (h : RH B base ms x a b) {i : Nat} (hi : i < a.heap.size) (hB : i < B) (o : Nat) : b.cell? ⟨i, o, none⟩ = a.cell? ⟨i, o, none⟩ := World.cell?_of_block (a := ⟨i, o, none⟩) (h.same hi hB)
end
section
variable (B base : Nat) (ms : List Mo) (x : Int)
def hAny : Ty (RH B base ms x) := ⟨fun _ _ => True, fun _ _ _ _ h => h⟩
def hEq (u : Value) : Ty (RH B base ms x) := ⟨fun v _ => v = u, fun _ _ _ _ h => h⟩
/-- a history of the region's own. -/
def hHis (ns : List Mo) (y : Int) : Ty (RH B base ms x) := ⟨fun v w => ∃ u, v = .agg #[u, .int .i64 y] ∧ OwnM w base u ns, fun _ _ _ hR ⟨u, hv, h⟩ => ⟨u, hv, hR.own h⟩⟩
/-- what a call gives: a history, its text, and whether it was done. -/
def hTup (t : List UInt8) (ok : Bool) : Ty (RH B base ms x) := ⟨fun v w => ∃ u, v = .tuple #[.agg #[u, .int .i64 x], S t, .bool ok] ∧ OwnM w base u ms, fun _ _ _ hR ⟨u, hv, h⟩ => ⟨u, hv, hR.own h⟩⟩
/-- a pointer to a new history's box. -/
def hBox : Ty (RH B base ms x) := ⟨fun v w => ∃ i, v = .pointer (some ⟨i, 0, none⟩) ∧ B ≤ i ∧ i < w.heap.size ∧ (∃ A, w.heap[i]? = some (.cells A 25 (0, 0))) ∧ ∃ a0 a1, Is w i #[a0, a1], fun v w w' hR ⟨i, hv, h1, h2, h3, h4⟩ =>
  ⟨i, hv, h1, Nat.lt_of_lt_of_le h2 hR.size, by
    rcases hR.block i h2 with h | ⟨_, _, h, ⟨v, hv, _⟩⟩
    · obtain ⟨A, h3⟩ := h3
      obtain ⟨a0, a1, h4⟩ := h4
      exact ⟨⟨A, h.trans h3⟩, a0, a1, h4.of_block h⟩
    · exact ⟨h, _, _, hv⟩⟩⟩
/-- the history is stored in the box to which slot t points. -/
def hPut (t : Nat) : Tl (RH B base ms x) := { hAny B base ms x with
  lk := some t
  s := fun u w => ∀ i, u = .pointer (some ⟨i, 0, none⟩) → i < w.heap.size ∧ BoxH base ms x w i
  us := fun u w w' hR h i hu => by
    obtain ⟨h1, h2⟩ := h i hu
    refine ⟨Nat.lt_of_lt_of_le h1 hR.size, ?_⟩
    rcases hR.box h1 h2 with h | h <;> exact h }
variable {B base : Nat} {ms : List Mo} {x : Int}
theorem hbox_mk {w : World} (u0 u1 : Value) : (∃ A, (w.alloc (.cells #[u0, u1] 25)).heap[w.heap.size]? = some (.cells A 25 (0, 0))) ∧ ∃ a0 a1, Is (w.alloc (.cells #[u0, u1] 25)) w.heap.size #[a0, a1] :=
  ⟨⟨#[u0, u1], heap_alloc_new w _⟩, u0, u1, new_is w _ _⟩
/-- both cells of a history's box are written. -/
theorem hput_mk {w : World} {i : Nat} {u : Value} (ht : ∃ A, w.heap[i]? = some (.cells A 25 (0, 0))) (hI : ∃ a0 a1, Is w i #[a0, a1]) (ho : OwnM w base u ms) (hB : B ≤ i) :
    BoxH base ms x ((w.setCell ⟨i, 0, none⟩ u).setCell ⟨i, 1, none⟩ (.int .i64 x)) i ∧ RH B base ms x w ((w.setCell ⟨i, 0, none⟩ u).setCell ⟨i, 1, none⟩ (.int .i64 x)) := by
  obtain ⟨A, hA⟩ := ht
  obtain ⟨a0, a1, hI⟩ := hI
  have h1 := heap_setCell_same w i 0 A 25 u hA
  have h2 := heap_setCell_same _ i 1 _ 25 (.int .i64 x) h1
  have hI2 : Is ((w.setCell ⟨i, 0, none⟩ u).setCell ⟨i, 1, none⟩ (.int .i64 x)) i #[u, .int .i64 x] := put_is (V := #[u, .int .i64 x]) hI rfl
  have hne : u.ownBlock ≠ some i := fun he => by
    rcases ho.2 with ⟨rfl, _⟩ | ⟨g, cap, cur, rfl, _, hgg, _⟩
    · cases he
    · injection he with he
      simp only at he
      subst he
      rw [hA] at hgg
      injection hgg with hgg
      injection hgg with _ h3 _
      exact absurd h3 (by decide)
  have hK : BoxH base ms x ((w.setCell ⟨i, 0, none⟩ u).setCell ⟨i, 1, none⟩ (.int .i64 x)) i := ⟨⟨_, h2⟩, u, hI2, own_setn (own_setn ho ⟨i, 0, none⟩ u fun g hg e => hne (by rw [hg]; exact congrArg some e)) ⟨i, 1, none⟩ _ fun g hg e => hne (by rw [hg]; exact congrArg some e)⟩
  refine ⟨hK, rfl, rfl, rfl, by simp [World.setCell], fun j hj => ?_⟩
  by_cases e : j = i
  · subst e
    exact .inr ⟨hB, ⟨A, hA⟩, hK⟩
  · exact .inl ((Below.heap_setCell _ ⟨i, 1, none⟩ _ j e).trans (Below.heap_setCell w ⟨i, 0, none⟩ u j e))
end

end Go.Proofs.YtbjlkdenkmbepaaGreatDoor

namespace Go.Proofs.YtbjlkdenkmbepaaGreatDoor
open Go.RowKit
set_option linter.unusedVariables false

/-- what change leaves. -/
def edCy (e : Es) (c : Ch) (y : Int) : Option Es := (edCh e c e.cl).map fun e2 => { e2 with x := y }
theorem edCy_yes {e : Es} {c : Ch} {y : Int} (h : okF e.s c = true ∧ e.ms.length ≠ 30) : edCy e c y = some ⟨apF e.s c, y, e.cl, e.ms ++ [⟨e.pa, c, rvF e.s c⟩], e.ms.length⟩ := by
  unfold edCy edCh
  rw [if_pos h]
  rfl
theorem edCy_no {e : Es} {c : Ch} {y : Int} (h : ¬ (okF e.s c = true ∧ e.ms.length ≠ 30)) : edCy e c y = none := by
  unfold edCy edCh
  rw [if_neg h]
  rfl
theorem edCy_mv {e : Es} {c : Ch} {y : Int} (h : y = mvP c e.x) : edCy e c y = edCh e c e.cl := by
  unfold edCy edCh
  subst h
  split <;> rfl
theorem ed_put_all3 {w W0 : World} {b : Nat} {c0 c1 c2 c3 c4 u0 u1 v a : Value} {ms : List Mo} (hB : w.grownBy W0 (some b)) (hI : Is W0 b #[c0, c1, c2, c3, c4]) (hz : b < W0.heap.size) (hv : RdM W0 v ms) (hn : v.ownBlock ≠ some b) :
    Is ((((W0.setCell ⟨b, 3, none⟩ v).setCell ⟨b, 4, none⟩ a).setCell ⟨b, 0, none⟩ u0).setCell ⟨b, 1, none⟩ u1) b #[u0, u1, c2, v, a] ∧ RdM ((((W0.setCell ⟨b, 3, none⟩ v).setCell ⟨b, 4, none⟩ a).setCell ⟨b, 0, none⟩ u0).setCell ⟨b, 1, none⟩ u1) v ms ∧ w.grownBy ((((W0.setCell ⟨b, 3, none⟩ v).setCell ⟨b, 4, none⟩ a).setCell ⟨b, 0, none⟩ u0).setCell ⟨b, 1, none⟩ u1) (some b) ∧ b < ((((W0.setCell ⟨b, 3, none⟩ v).setCell ⟨b, 4, none⟩ a).setCell ⟨b, 0, none⟩ u0).setCell ⟨b, 1, none⟩ u1).heap.size := by
  have r1 := rdM_put (p := ⟨b, 3, none⟩) (u := v) hv hn
  have r2 := rdM_put (p := ⟨b, 4, none⟩) (u := a) r1 hn
  have r3 := rdM_put (p := ⟨b, 0, none⟩) (u := u0) r2 hn
  have r4 := rdM_put (p := ⟨b, 1, none⟩) (u := u1) r3 hn
  have g1 := gb_here hB (p := ⟨b, 3, none⟩) rfl v
  have g2 := gb_here g1 (p := ⟨b, 4, none⟩) rfl a
  have g3 := gb_here g2 (p := ⟨b, 0, none⟩) rfl u0
  have g4 := gb_here g3 (p := ⟨b, 1, none⟩) rfl u1
  refine ⟨ed_put hI u0 u1 v a, r4, g4, ?_⟩
  clear r1 r2 r3 r4 g1 g2 g3 g4
  simpa [World.setCell] using hz
set_option maxRecDepth 100000 in
set_option maxHeartbeats 2000000 in
theorem change_ok (b : Nat) (s : List UInt8) (x : Int) (cl : List UInt8) (ms : List Mo) (pa : Int) (c : Ch) (y : Int) (m2 : List Mo) (a2 : Int) (t2 : List UInt8) (ok : Bool) (w : World) (h : EdBox w b s x cl ms pa) (hm2 : ∀ m ∈ m2, m.f.p.length ≤ 1048576 ∧ m.b.p.length ≤ 1048576)
    (HD : Hid (∀ (v : Value) (w' : World), RdM w' v ms → Calls Tryz.prog 146 #[.agg #[v, .int .i64 pa], S s, chAgg c] w' (HRes m2 a2 t2 ok w'))) :
    Calls Tryz.prog 109 #[.pointer (some ⟨b, 0, none⟩), chAgg c, .int .i64 y] w (fun en w' => en = .returned (.bool ok) ∧ w.grownBy w' (some b) ∧ (ok = true → EdBox w' b t2 y cl m2 a2)) := by
  have HM2 := Lib.hid hm2
  clear hm2
  obtain ⟨qa, qc, qp⟩ := c
  unfold HRes at HD
  unfold chAgg at HD ⊢
  simp only at HD
  obtain ⟨v, hI, hv, hvb, hbz⟩ := h
  obtain ⟨B, d, rfl, _, _⟩ := hv.1.form
  have HV := Lib.hid hv
  replace HD := Lib.hid (fun (w' : World) (hb : Below w.heap.size w w') => HD.out (.slice B ms.length d) w' (HV.out.up hb))
  have HI := Lib.hid hI
  have HZ := Lib.hid hbz
  have HN := Lib.hid hvb
  clear hv hvb
  go_enter Tryz.func109, Tryz.ntmps109
  go_upto_region 1 with (fail)
  obtain ⟨W0, hw⟩ : ∃ z, z = w.alloc (.cells #[.int .i64 qa, .int .i64 qc, S qp] 78) := ⟨_, rfl⟩
  rw [← hw]
  have hB0 : Below w.heap.size w W0 := by rw [hw]; exact up_alloc (Below.refl _ _) _
  have yI : Is W0 w.heap.size #[.int .i64 qa, .int .i64 qc, S qp] := by rw [hw]; exact new_is w _ _
  have xI : Is W0 b #[S s, .int .i64 x, S cl, .slice B ms.length d, .int .i64 pa] := Is.up hI hbz hB0
  have xc := xI.1
  have xf := xI.2
  have yc := yI.1
  have xz : b < W0.heap.size := by rw [hw]; simp; omega
  have yz : w.heap.size < W0.heap.size := by rw [hw]; simp
  have HW0 := Lib.hid hB0
  have XI := Lib.hid xI
  clear hI xI yI hw hB0 hbz HI HV
  --EVER{(*impl.Editor).change;1;chg1}
  refine wp_region_everL (R := RH W0.heap.size W0.heap.size m2 a2) (M := fun _ _ => True) 0 (fun _ => True) [(hEq _ _ _ _ (.pointer (some ⟨b, 0, none⟩))).l, (hEq _ _ _ _ (.pointer (some ⟨b, 0, none⟩))).l, (hEq _ _ _ _ (.pointer (some ⟨b, 3, none⟩))).l, (hEq _ _ _ _ (.agg #[.slice B ms.length d, .int .i64 pa])).l, (hEq _ _ _ _ (.pointer (some ⟨b, 0, none⟩))).l, (hEq _ _ _ _ (.pointer (some ⟨b, 0, none⟩))).l, (hEq _ _ _ _ (.pointer (some ⟨b, 0, none⟩))).l, (hEq _ _ _ _ (S s)).l, (hEq _ _ _ _ (.agg #[.int .i64 qa, .int .i64 qc, S qp])).l, (hTup _ _ _ _ t2 ok).l, (hTup _ _ _ _ t2 ok).l, (hHis _ _ _ _ m2 a2).l, (hEq _ _ _ _ (S t2)).l, (hEq _ _ _ _ (.bool ok)).l, (hBox _ _ _ _).l, hPut _ _ _ _ 7, (hEq _ _ _ _ (S t2)).l, (hEq _ _ _ _ (.bool ok)).l] (by kernel_rfl) (RH.refl _ _ _ _) (fun _ _ _ => RH.trans) (by kernel_rfl) (by kernel_rfl) (trivial) (trivial) ?_ ?_
  · refine ⟨?_, ?_, ?_, ?_, ?_, ?_, ?_, ?_, ?_, ?_, ?_, ?_, ?_, ?_, ?_, ?_, ?_, ?_, trivial⟩
    · intro k' w' ρ hk' hR hM hD hF
      replace hk' : k' < 18 := hk'
      obtain ⟨f0, -⟩ := hF
      replace f0 : ρ (.tmp 0) = .pointer (some ⟨b, 0, none⟩) := f0
      exact ⟨RH.refl _ _ _ _ _, ⟨trivial, fun _ h => h⟩, f0, trivial⟩
    · intro k' w' ρ hk' hR hM hD hF
      replace hk' : k' < 18 := hk'
      obtain ⟨f0, -⟩ := hF
      replace f0 : ρ (.tmp 11) = .pointer (some ⟨b, 0, none⟩) := f0
      refine goodL_of (fun _ => trivial) fun K hK => ?_
      go_simp
      exact hK _ _ (RH.refl _ _ _ _ _) (⟨trivial, fun _ h => h⟩) (rfl)
    · intro k' w' ρ hk' hR hM hD hF
      replace hk' : k' < 18 := hk'
      obtain ⟨f0, -⟩ := hF
      replace f0 : ρ (.tmp 12) = .pointer (some ⟨b, 0, none⟩) := f0
      refine goodL_of (fun _ => trivial) fun K hK => ?_
      go_simp
      exact hK _ _ (RH.refl _ _ _ _ _) (⟨trivial, fun _ h => h⟩) (rfl)
    · intro k' w' ρ hk' hR hM hD hF
      replace hk' : k' < 18 := hk'
      obtain ⟨f0, -⟩ := hF
      replace f0 : ρ (.tmp 13) = .pointer (some ⟨b, 3, none⟩) := f0
      refine goodL_of (fun _ => trivial) fun K hK => ?_
      have z3 := (hR.of_drew.cell xz xz 3).trans (xc 3); have z4 := (hR.of_drew.cell xz xz 4).trans (xc 4); go_simp; exact hK _ _ (RH.refl _ _ _ _ _) (⟨trivial, fun _ h => h⟩) rfl
    · intro k' w' ρ hk' hR hM hD hF
      replace hk' : k' < 18 := hk'
      obtain ⟨f0, -⟩ := hF
      replace f0 : ρ (.tmp 0) = .pointer (some ⟨b, 0, none⟩) := f0
      exact ⟨RH.refl _ _ _ _ _, ⟨trivial, fun _ h => h⟩, f0, trivial⟩
    · intro k' w' ρ hk' hR hM hD hF
      replace hk' : k' < 18 := hk'
      obtain ⟨f0, -⟩ := hF
      replace f0 : ρ (.tmp 15) = .pointer (some ⟨b, 0, none⟩) := f0
      refine goodL_of (fun _ => trivial) fun K hK => ?_
      go_simp
      exact hK _ _ (RH.refl _ _ _ _ _) (⟨trivial, fun _ h => h⟩) (rfl)
    · intro k' w' ρ hk' hR hM hD hF
      replace hk' : k' < 18 := hk'
      obtain ⟨f0, -⟩ := hF
      replace f0 : ρ (.tmp 16) = .pointer (some ⟨b, 0, none⟩) := f0
      refine goodL_of (fun _ => trivial) fun K hK => ?_
      go_simp
      exact hK _ _ (RH.refl _ _ _ _ _) (⟨trivial, fun _ h => h⟩) (rfl)
    · intro k' w' ρ hk' hR hM hD hF
      replace hk' : k' < 18 := hk'
      obtain ⟨f0, -⟩ := hF
      replace f0 : ρ (.tmp 17) = .pointer (some ⟨b, 0, none⟩) := f0
      refine goodL_of (fun _ => trivial) fun K hK => ?_
      have z0 := (hR.of_drew.cell xz xz 0).trans (xc 0); go_simp; exact hK _ _ (RH.refl _ _ _ _ _) (⟨trivial, fun _ h => h⟩) rfl
    · intro k' w' ρ hk' hR hM hD hF
      replace hk' : k' < 18 := hk'
      obtain ⟨f0, -⟩ := hF
      replace f0 : ρ (.tmp 4) = .pointer (some ⟨w.heap.size, 0, none⟩) := f0
      refine goodL_of (fun _ => trivial) fun K hK => ?_
      have z0 := (hR.of_drew.cell yz yz  0).trans (yc 0); have z1 := (hR.of_drew.cell yz yz  1).trans (yc 1); have z2 := (hR.of_drew.cell yz yz  2).trans (yc 2); go_simp; exact hK _ _ (RH.refl _ _ _ _ _) (⟨trivial, fun _ h => h⟩) rfl
    · intro k' w' ρ hk' hR hM hD hF
      replace hk' : k' < 18 := hk'
      obtain ⟨f0, f1, f2, f3, -⟩ := hF
      replace f0 : ρ (.func _) = .func (.func _) #[] #[] := f0
      replace f1 : ρ (.tmp 14) = .agg #[.slice B ms.length d, .int .i64 pa] := f1
      replace f2 : ρ (.tmp 18) = S s := f2
      replace f3 : ρ (.tmp 19) = .agg #[.int .i64 qa, .int .i64 qc, S qp] := f3
      refine goodL_of (fun _ => trivial) fun K hK => ?_
      have HU := Lib.hid (up_trans HW0.out hR.of_drew.to_below); go_simp; refine (HD.out _ HU.out).mono ?_; rintro e wc ⟨v0, rfl, ho, hb⟩; exact ⟨_, rfl, hK _ _ (RH.of_below hb) ⟨trivial, fun _ _ => trivial⟩ ⟨v0, rfl, own_base ho hR.size⟩⟩
    · intro k' w' ρ hk' hR hM hD hF
      replace hk' : k' < 18 := hk'
      obtain ⟨f0, -⟩ := hF
      exact ⟨RH.refl _ _ _ _ _, ⟨trivial, fun _ h => h⟩, f0, trivial⟩
    · intro k' w' ρ hk' hR hM hD hF
      replace hk' : k' < 18 := hk'
      obtain ⟨f0, -⟩ := hF
      refine goodL_of (fun _ => trivial) fun K hK => ?_
      obtain ⟨v0, f0, q0⟩ := f0; replace f0 : ρ (.tmp _) = .tuple #[.agg #[v0, .int .i64 a2], S t2, .bool ok] := f0; have Q0 := Lib.hid q0; clear q0; go_simp; exact hK _ _ (RH.refl _ _ _ _ _) ⟨trivial, fun _ h => h⟩ ⟨v0, rfl, Q0.out⟩
    · intro k' w' ρ hk' hR hM hD hF
      replace hk' : k' < 18 := hk'
      obtain ⟨f0, -⟩ := hF
      refine goodL_of (fun _ => trivial) fun K hK => ?_
      obtain ⟨v0, f0, q0⟩ := f0; replace f0 : ρ (.tmp _) = .tuple #[.agg #[v0, .int .i64 a2], S t2, .bool ok] := f0; have Q0 := Lib.hid q0; clear q0; go_simp; exact hK _ _ (RH.refl _ _ _ _ _) ⟨trivial, fun _ h => h⟩ rfl
    · intro k' w' ρ hk' hR hM hD hF
      replace hk' : k' < 18 := hk'
      obtain ⟨f0, -⟩ := hF
      refine goodL_of (fun _ => trivial) fun K hK => ?_
      obtain ⟨v0, f0, q0⟩ := f0; replace f0 : ρ (.tmp _) = .tuple #[.agg #[v0, .int .i64 a2], S t2, .bool ok] := f0; have Q0 := Lib.hid q0; clear q0; go_simp; exact hK _ _ (RH.refl _ _ _ _ _) ⟨trivial, fun _ h => h⟩ rfl
    · intro k' w' ρ hk' hR hM hD hF
      replace hk' : k' < 18 := hk'
      refine goodL_of (fun _ => trivial) fun K hK => ?_
      have hBz : _ ≤ w'.heap.size := hR.size; go_simp; exact hK _ _ (RH.of_below (up_alloc (Below.refl _ _) _)) ⟨trivial, fun _ _ => trivial⟩ ⟨_, rfl, hBz, by simp, (hbox_mk _ _).1, (hbox_mk _ _).2⟩
    · intro k' w' ρ hk' hR hM hD hF
      replace hk' : k' < 18 := hk'
      obtain ⟨f0, f1, -⟩ := hF
      refine goodL_ofs fun K hK => ?_
      obtain ⟨bi, f0, bB, bz, bT, bI⟩ := f0; replace f0 : ρ (.tmp 7) = .pointer (some ⟨bi, 0, none⟩) := f0; obtain ⟨u1, f1, q1⟩ := f1; obtain ⟨A1, c1, rfl, -, -⟩ := (RdL.of_own (f := moC) (bs := m2) q1).form; replace f1 : ρ (.tmp _) = .agg #[.slice A1 m2.length c1, .int .i64 a2] := f1; obtain ⟨bK, bG⟩ := hput_mk (x := a2) bT bI q1 bB; obtain ⟨b0, b1, bI⟩ := bI; have e0 : w'.cell? ⟨bi, 0, none⟩ = some b0 := bI.1 0; have e1 : w'.cell? ⟨bi, 1, none⟩ = some b1 := bI.1 1; have qf := bI.2; clear bI q1; go_simp; refine hK _ _ bG ⟨trivial, fun _ _ => trivial⟩ trivial ?_; intro i hi; replace hi := hi.symm.trans f0; cases hi; exact ⟨by simpa [World.setCell] using bz, bK⟩
    · intro k' w' ρ hk' hR hM hD hF
      replace hk' : k' < 18 := hk'
      obtain ⟨f0, -⟩ := hF
      replace f0 : ρ (.tmp 22) = S t2 := f0
      exact ⟨RH.refl _ _ _ _ _, ⟨trivial, fun _ h => h⟩, f0, trivial⟩
    · intro k' w' ρ hk' hR hM hD hF
      replace hk' : k' < 18 := hk'
      obtain ⟨f0, -⟩ := hF
      replace f0 : ρ (.tmp 23) = .bool ok := f0
      exact ⟨RH.refl _ _ _ _ _, ⟨trivial, fun _ h => h⟩, f0, trivial⟩
  · intro w' hR hM
    rintro _ rfl -
    rintro _ rfl -
    rintro _ rfl -
    rintro _ rfl -
    rintro _ rfl -
    rintro _ rfl -
    rintro _ rfl -
    rintro _ rfl -
    rintro _ rfl -
    rintro _ ⟨_, rfl, -⟩ -
    rintro _ ⟨_, rfl, -⟩ -
    rintro _ ⟨_, rfl, -⟩ -
    rintro _ rfl -
    rintro _ rfl -
    rintro _ ⟨db, rfl, dbB, dbz, -, -⟩ -
    rintro _ - dbS
    rintro _ rfl -
    rintro _ rfl -
  --END
  --END
    dsimp only [EndAllL, Act.put]
    simp only [List.setIfInBounds_toArray, List.set_cons_zero, List.set_cons_succ]
    obtain ⟨w3, rfl⟩ : ∃ z, z = w' := ⟨_, rfl⟩
    obtain ⟨dz, hdk, V0, ⟨dc, df⟩, ho0⟩ := dbS _ rfl
    replace dc : ∀ o, w3.cell? ⟨db, o, none⟩ = #[V0, .int .i64 a2][o]? := dc
    replace ho0 : OwnM w3 _ V0 m2 := ho0
    have hB3 : Below W0.heap.size W0 w3 := hR.of_drew.to_below
    obtain ⟨VA, VC, rfl, -, -⟩ := (RdL.of_own (f := moC) (bs := m2) ho0).form
    have HV3 := Lib.hid (show RdM w3 (.slice VA m2.length VC) m2 from ⟨RdL.of_own ho0, HM2.out⟩)
    have HN3 := Lib.hid (show (Value.slice VA m2.length VC).ownBlock ≠ some b from fun e => by have := (ho0.lt _ e).1; omega)
    have XI3 := Lib.hid (Is.up XI.out xz hB3)
    have HW3 := Lib.hid (up_trans HW0.out hB3)
    have xz3 := Nat.lt_of_lt_of_le xz hB3.size
    have xc3 := XI3.out.1
    have xf3 := XI3.out.2
    clear hR hM ho0 dbS hdk dbz dbB hB3 xc xf yc XI HW0 HD xz yz
    rcases ok with _ | _
    · go_wp2_with fail
      go_ret
      exact ⟨rfl, gb_of_up HW3.out _, fun h => by cases h⟩
    · have HQ := Lib.hid (ed_put_all3 (u0 := S t2) (u1 := .int .i64 y) (a := .int .i64 a2) (gb_of_up HW3.out (some b)) XI3.out xz3 HV3.out HN3.out)
      go_wp2_with fail
      go_ret
      exact ⟨rfl, HQ.out.2.2.1, _, HQ.out.1, HQ.out.2.1, HN3.out, HQ.out.2.2.2⟩

theorem implHd_any (s : List UInt8) (ms : List Mo) (pa : Int) (o : List (List UInt8)) (c : Ch) (hg : HGood ms pa s o) (hp : c.p.length ≤ 1048576) (ok : Bool) (hok : ok = (okF s c && decide (ms.length ≠ 30))) :
    Hid (∀ (v : Value) (w' : World), RdM w' v ms → Calls Tryz.prog 146 #[.agg #[v, .int .i64 pa], S s, chAgg c] w' (HRes (if ok = true then ms ++ [⟨pa, c, rvF s c⟩] else ms) (if ok = true then (ms.length : Int) else pa) (if ok = true then apF s c else s) ok w')) := by
  refine Lib.hid fun v w' h => ?_
  subst hok
  rcases h1 : okF s c with _ | _
  · exact implHistoryDo_bad v ms pa s c w' o h hg hp h1
  · by_cases h2 : ms.length = 30
    · rw [decide_eq_false (by omega)]
      exact implHistoryDo_full v ms pa s c w' o h hg hp h1 h2
    · rw [decide_eq_true h2]
      exact implHistoryDo_done v ms pa s c w' o h hg hp h1 h2
theorem change_any (b : Nat) (e : Es) (o : List (List UInt8)) (c : Ch) (y : Int) (w : World) (h : EdB w b e) (hin : EdIn e o) (hp : c.p.length ≤ 1048576) :
    Calls Tryz.prog 109 #[.pointer (some ⟨b, 0, none⟩), chAgg c, .int .i64 y] w (DoP b (edCy e c y) w) := by
  by_cases hd : okF e.s c = true ∧ e.ms.length ≠ 30
  · have hg2 := hin.g.more c hd.1 hd.2
    have H := implHd_any e.s e.ms e.pa o c hin.g hp true (by rw [hd.1, decide_eq_true hd.2]; rfl)
    simp only [if_true] at H
    refine (change_ok b e.s e.x e.cl e.ms e.pa c y _ _ _ true w h (fun m hm => by
      obtain ⟨k, hk, rfl⟩ := List.getElem_of_mem hm
      have := hg2.put hk
      rw [getD_at _ m0 k hk] at this
      omega) H).mono fun en w' ⟨h1, h2, h3⟩ => ?_
    rw [edCy_yes hd]
    exact ⟨h1, h2, fun e2 he => by injection he with he; subst he; exact h3 rfl⟩
  · have H := implHd_any e.s e.ms e.pa o c hin.g hp false (by
      rcases h1 : okF e.s c with _ | _
      · rfl
      · rw [decide_eq_false (fun h2 => hd ⟨h1, h2⟩)]; rfl)
    refine (change_ok b e.s e.x e.cl e.ms e.pa c y _ _ _ false w h (fun m hm => by
      obtain ⟨k, hk, rfl⟩ := List.getElem_of_mem hm
      have hk' : k < e.ms.length := hk
      have := hin.g.put hk'
      have e9 : e.ms.getD k m0 = (if (false : Bool) = true then e.ms ++ [⟨e.pa, c, rvF e.s c⟩] else e.ms)[k] := getD_at _ m0 k hk
      rw [e9] at this
      omega) H).mono fun en w' ⟨h1, h2, h3⟩ => ?_
    rw [edCy_no hd]
    exact ⟨h1, h2, fun e2 he => by cases he⟩

end Go.Proofs.YtbjlkdenkmbepaaGreatDoor
