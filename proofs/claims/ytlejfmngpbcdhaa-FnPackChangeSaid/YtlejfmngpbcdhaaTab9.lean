/- What is proved here: the contract of the program's clone of a table. No condition. -/
import Derived.Test.YtlejfmngpbcdhaaTab8
namespace Go.Proofs.Ytlejfmngpbcdhaa
open Go.RowKit
set_option linter.unusedVariables false

set_option maxRecDepth 100000 in
set_option maxHeartbeats 2000000 in
theorem cloneT_any (f m : List UInt8) (v : Value) (ps : List Pc) (w : World) (h : RdP w v ps) (hn : ps.length ≤ 1048576) :
    Calls Try.prog 59 #[tbAgg f m v] w (TbPost f m ps w) := by
  obtain ⟨A, c, rfl, hpl, _⟩ := h.form
  obtain ⟨i0, hi, hz0, hz1, hz2⟩ := info_parts piece_info
  have H2 := Lib.hid (fun (w' : World) (hb : Below w.heap.size w w') => h.up hb)
  unfold TbPost tbAgg
  clear h
  go_enter Try.func59, Try.ntmps59
  go_wp2_with (at_builtin
               go_loud (
               refine wpList_append_any _ rfl _ _ 46 rfl (w.heap.size + 2) 79 i0 _ 3 24 Try.underlying46 hi hz0 hz1 hz2 rfl (by decide) _ _ _ rfl (World.ownsRow_nil _ _ _ _) _ ps.length _ rfl (H2.out _ (by (repeat (first | exact Below.refl _ _ | assumption | refine Below.drew ?_ | refine up_drewN ?_ _ | refine up_alloc ?_ _ | refine up_set ?_ _ _ (by first | exact Nat.le_refl _ | (simp; done) | (simp; omega) | omega) | refine up_trans ?_ (by assumption))))) (pc_oneCell ps) (by unfold maxLen; omega) (by omega) (by first | (simp; done) | (simp; omega)) ?_
               intro v1 w1 how hgr
               obtain ⟨A1, c1, rfl, -, -⟩ := (RdL.of_own (f := pcC) (bs := ps) (by simpa using how)).form
               have hb := up_grown (Below.refl _ _) hgr (fun k hk => by cases hk)
               have xc : ∀ o, w1.cell? ⟨w.heap.size, o, none⟩ = #[S f, S m, .slice A ps.length c][o]? := (fun o => (hb.cell (p := ⟨w.heap.size, o, none⟩) (by simp <;> omega)).trans (by simp [go_sem])); have xf : ∀ o, w1.frozen? ⟨w.heap.size, o, none⟩ = false := (fun o => (hb.frozen (p := ⟨w.heap.size, o, none⟩) (by simp <;> omega)).trans (by simp [go_sem])); have xz : w.heap.size < w1.heap.size := (by have := hb.size; (try simp at this); omega); have xy := xz
               have yc : ∀ o, w1.cell? ⟨w.heap.size + 1, o, none⟩ = #[S [], S [], .slice none 0 0][o]? := (fun o => (hb.cell (p := ⟨w.heap.size + 1, o, none⟩) (by simp <;> omega)).trans (by simp [go_sem])); have yf : ∀ o, w1.frozen? ⟨w.heap.size + 1, o, none⟩ = false := (fun o => (hb.frozen (p := ⟨w.heap.size + 1, o, none⟩) (by simp <;> omega)).trans (by simp [go_sem])); have yz : w.heap.size + 1 < w1.heap.size := (by have := hb.size; (try simp at this); omega); have yy := yz
               have hW : Below w.heap.size w w1 := (by (repeat (first | exact Below.refl _ _ | assumption | refine Below.drew ?_ | refine up_drewN ?_ _ | refine up_alloc ?_ _ | refine up_set ?_ _ _ (by first | exact Nat.le_refl _ | (simp; done) | (simp; omega) | omega) | refine up_trans ?_ (by assumption))))
               have HO := Lib.hid (show OwnP w1 (w.heap.size + 2) (.slice A1 ps.length c1) ps by simpa using how)
               clear hb hgr how))
  refine bodyPost_ret (v := .agg #[S f, S m, .slice A1 ps.length c1]) (by simp [results, Try.results59, go_sem, yc]) rfl ⟨_, rfl, ?_, by (repeat refine up_set ?_ _ _ (by first | exact Nat.le_refl _ | (simp; done) | (simp; omega))); exact hW⟩
  exact own_base (own_set (own_set (own_set (own_set HO.out _ _ (by simp)) _ _ (by simp)) _ _ (by simp)) _ _ (by simp)) (by omega)

end Go.Proofs.Ytlejfmngpbcdhaa
