/- What is proved here: the contract of the reference's l1OwnTable. No condition. -/
import Derived.Test.YtlejfmngpbcdhaaTab7
import Derived.Test.YtlejfmngpbcdhaaEverL
import Derived.Test.YtlejfmngpbcdhaaHistM
namespace Go.Proofs.Ytlejfmngpbcdhaa
open Go.RowKit
set_option linter.unusedVariables false

/-- a call that returns a table whose pieces are the call's own. -/
def TbPost (f m : List UInt8) (ps : List Pc) (w : World) (e : Ending) (w' : World) : Prop := ∃ u, e = .returned (tbAgg f m u) ∧ OwnP w' w.heap.size u ps ∧ Below w.heap.size w w'
theorem piece_empty (w : World) (B : Nat) (hB : B ≤ w.heap.size) : Own (w.alloc (.cells #[] 79)) B 79 3 (.slice (some ⟨w.heap.size, 0, none⟩) 0 0) 0 [] := by
  have := World.ownsRow_lit (base := B) (e := 79) (size := 3) w #[] 0 hB (by decide) rfl
  simpa using this

theorem farC {w w' : World} {row : Option Nat} (hg : w.grownBy w' row) (a : Addr) (hlt : a.block < w.heap.size) (hne : some a.block ≠ row) : w'.cell? a = w.cell? a := World.cell?_of_block (hg.block _ hlt hne)
theorem farF {w w' : World} {row : Option Nat} (hg : w.grownBy w' row) (a : Addr) (hlt : a.block < w.heap.size) (hne : some a.block ≠ row) : w'.frozen? a = w.frozen? a := World.frozen?_of_block (hg.block _ hlt hne)

set_option maxRecDepth 100000 in
set_option maxHeartbeats 2000000 in
theorem l1OwnTable_any (f m : List UInt8) (v : Value) (ps : List Pc) (w : World) (h : RdP w v ps) (hn : ps.length ≤ 1048576) :
    Calls Try.prog 52 #[tbAgg f m v] w (TbPost f m ps w) := by
  obtain ⟨A, c, rfl, hpl, _⟩ := h.form
  obtain ⟨i0, hi, hz0, hz1, hz2⟩ := info_parts piece_info
  have H2 := Lib.hid (fun (w' : World) (hb : Below w.heap.size w w') => h.up hb)
  unfold TbPost tbAgg
  clear h
  go_enter Try.func52, Try.ntmps52
  go_upto_region 2 with (fail)
  obtain ⟨w1, hw1⟩ : ∃ z, z = ((w.alloc (.cells #[S f, S m, .slice A ps.length c] 48)).alloc (.cells #[S [], S [], .slice none 0 0] 48)).alloc (.cells #[S f, S m, .slice A ps.length c] 48) := ⟨_, rfl⟩
  have hb : Below (((w.alloc (.cells #[S f, S m, .slice A ps.length c] 48)).alloc (.cells #[S [], S [], .slice none 0 0] 48)).alloc (.cells #[S f, S m, .slice A ps.length c] 48)).heap.size (((w.alloc (.cells #[S f, S m, .slice A ps.length c] 48)).alloc (.cells #[S [], S [], .slice none 0 0] 48)).alloc (.cells #[S f, S m, .slice A ps.length c] 48)) w1 := by rw [hw1]; exact Below.refl _ _
  have sz1 : w1.heap.size = w.heap.size + 3 := by rw [hw1]; simp
  show Code.wp _ _ _ _ (((w.alloc (.cells #[S f, S m, .slice A ps.length c] 48)).alloc (.cells #[S [], S [], .slice none 0 0] 48)).alloc (.cells #[S f, S m, .slice A ps.length c] 48))
  rw [← hw1]
  have tc : ∀ o, w1.cell? ⟨w.heap.size, o, none⟩ = #[S f, S m, .slice A ps.length c][o]? := (fun o => (hb.cell (p := ⟨w.heap.size, o, none⟩) (by simp <;> omega)).trans (by simp [go_sem])); have tf : ∀ o, w1.frozen? ⟨w.heap.size, o, none⟩ = false := (fun o => (hb.frozen (p := ⟨w.heap.size, o, none⟩) (by simp <;> omega)).trans (by simp [go_sem])); have tz : w.heap.size < w1.heap.size := (by have := hb.size; (try simp at this); omega); have ty := tz
  have rc : ∀ o, w1.cell? ⟨w.heap.size + 1, o, none⟩ = #[S [], S [], .slice none 0 0][o]? := (fun o => (hb.cell (p := ⟨w.heap.size + 1, o, none⟩) (by simp <;> omega)).trans (by simp [go_sem])); have rf : ∀ o, w1.frozen? ⟨w.heap.size + 1, o, none⟩ = false := (fun o => (hb.frozen (p := ⟨w.heap.size + 1, o, none⟩) (by simp <;> omega)).trans (by simp [go_sem])); have rz : w.heap.size + 1 < w1.heap.size := (by have := hb.size; (try simp at this); omega); have ry := rz
  have xc : ∀ o, w1.cell? ⟨w.heap.size + 2, o, none⟩ = #[S f, S m, .slice A ps.length c][o]? := (fun o => (hb.cell (p := ⟨w.heap.size + 2, o, none⟩) (by simp <;> omega)).trans (by simp [go_sem])); have xf : ∀ o, w1.frozen? ⟨w.heap.size + 2, o, none⟩ = false := (fun o => (hb.frozen (p := ⟨w.heap.size + 2, o, none⟩) (by simp <;> omega)).trans (by simp [go_sem])); have xz : w.heap.size + 2 < w1.heap.size := (by have := hb.size; (try simp at this); omega); have xy := xz
  have hW : Below w.heap.size w w1 := by (repeat (first | exact Below.refl _ _ | assumption | refine Below.drew ?_ | refine up_drewN ?_ _ | refine up_alloc ?_ _ | refine up_set ?_ _ _ (by first | exact Nat.le_refl _ | (simp; done) | (simp; omega) | omega) | refine up_trans ?_ (by assumption)))
  have SZ := Lib.hid sz1
  have L1 : ∀ z : Obj, w.heap.size + 1 < (w1.alloc z).heap.size := fun z => by simp; omega
  have L2 : ∀ z : Obj, w.heap.size + 2 < (w1.alloc z).heap.size := fun z => by simp; omega
  have L3 : ∀ z : Obj, w.heap.size + 3 ≤ (w1.alloc z).heap.size := fun z => by simp; omega
  have N1 : some (w.heap.size + 1) ≠ some w1.heap.size := fun h => by have := Option.some.inj h; omega
  have N2 : some (w.heap.size + 2) ≠ some w1.heap.size := fun h => by have := Option.some.inj h; omega
  have NK : w.heap.size ≤ w1.heap.size := by omega
  clear hb hw1 sz1
  go_wp2_with (at_builtin; go_loud (
               refine wpList_append_any _ rfl _ _ 46 rfl (w.heap.size + 3) 79 i0 _ 3 24 Try.underlying46 hi hz0 hz1 hz2 rfl (by decide) _ _ _ rfl (piece_empty w1 (w.heap.size + 3) (Nat.le_of_eq SZ.out.symm)) _ ps.length _ rfl (H2.out _ (up_alloc hW _)) (pc_oneCell ps) (by unfold maxLen; omega) (by omega) (L3 _) ?_
               intro v2 w2 how hgr
               obtain ⟨A2, c2, rfl, -, -⟩ := (RdL.of_own (f := pcC) (bs := ps) (by simpa using how)).form
               have rc2 : ∀ o, w2.cell? ⟨w.heap.size + 1, o, none⟩ = #[S [], S [], .slice none 0 0][o]? := fun o => (farC hgr ⟨w.heap.size + 1, o, none⟩ (L1 _) N1).trans ((World.cell?_alloc_lt w1 _ ⟨w.heap.size + 1, o, none⟩ rz).trans (rc o))
               have rf2 : ∀ o, w2.frozen? ⟨w.heap.size + 1, o, none⟩ = false := fun o => (farF hgr ⟨w.heap.size + 1, o, none⟩ (L1 _) N1).trans ((World.frozen?_alloc_past _ _ o rz).trans (rf o))
               have xc2 : ∀ o, w2.cell? ⟨w.heap.size + 2, o, none⟩ = #[S f, S m, .slice A ps.length c][o]? := fun o => (farC hgr ⟨w.heap.size + 2, o, none⟩ (L2 _) N2).trans ((World.cell?_alloc_lt w1 _ ⟨w.heap.size + 2, o, none⟩ xz).trans (xc o))
               have xf2 : ∀ o, w2.frozen? ⟨w.heap.size + 2, o, none⟩ = false := fun o => (farF hgr ⟨w.heap.size + 2, o, none⟩ (L2 _) N2).trans ((World.frozen?_alloc_past _ _ o xz).trans (xf o))
               have hW2 : Below w.heap.size w w2 := up_grown (up_alloc hW _) hgr (fun k hk => (Option.some.inj hk) ▸ NK)
               have HO := Lib.hid (show OwnP w2 (w.heap.size + 3) (.slice A2 ps.length c2) ps by simpa using how)
               clear how hgr rc rf xc xf tc tf))
  refine bodyPost_ret (v := .agg #[S f, S m, .slice A2 ps.length c2]) (by simp [results, Try.results52, go_sem, rc2]) rfl ⟨_, rfl, ?_, by (repeat refine up_set ?_ _ _ (by first | exact Nat.le_refl _ | (simp; done) | (simp; omega))); exact hW2⟩
  exact own_base (own_set (own_set (own_set (own_set HO.out _ _ (by simp)) _ _ (by simp)) _ _ (by simp)) _ _ (by simp)) (by omega)

end Go.Proofs.Ytlejfmngpbcdhaa
