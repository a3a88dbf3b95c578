/- What is proved here: What is proved here: the parts of sync.Once: loading, storing, locking and unlocking where nobody else runs. What is proved here: the contract of strings.NewReplacer at the four texts of the program. What is proved here: the contract of the library's (*Replacer).build at the four texts of the program: it makes a table of what stands for each byte. What is proved here: the contract of the once-made table of a Replacer: buildOnce, doSlow and Do where nobody else runs. No condition. -/
import Derived.Test.YtbjlkdenkmbepaaGreatDoorBase
import Derived.Tactics
import Derived.Tactics2
import Derived.Defers
import Derived.Laws.Pointers
import Derived.Laws.LoneSync
import Derived.RegionTactic
import Derived.RegionCalls
import Derived.ChangeAlike
import Derived.Test.YtbjlkdenkmbepaaGreatDoorAc2
import Derived.Deep.Cut
import Derived.Deep.WholeRow
import Derived.Lib.ConvBytes
import Derived.Lib.AtoiErrMem
import Derived.Laws.IdiomStrings
namespace Go.Proofs.YtbjlkdenkmbepaaGreatDoor
open Go.RowKit
set_option linter.unusedVariables false

theorem race_disable (w : World) : (callFunc 241 #[]).run Tryz.prog w = .ok (.value (.tuple #[])) w := run_call_mark0 Tryz.func241 (by kernel_rfl) (by kernel_rfl) (by kernel_rfl) .disable (by kernel_rfl) w
theorem race_enable (w : World) : (callFunc 243 #[]).run Tryz.prog w = .ok (.value (.tuple #[])) w := run_call_mark0 Tryz.func243 (by kernel_rfl) (by kernel_rfl) (by kernel_rfl) .enable (by kernel_rfl) w
theorem race_acquire (a : Addr) (w : World) : (callFunc 244 #[.pointer (some a)]).run Tryz.prog w = .ok (.value (.tuple #[])) w := run_call_marked Tryz.func244 (by kernel_rfl) (by kernel_rfl) (by kernel_rfl) .acquire (by kernel_rfl) a w
theorem race_release (a : Addr) (w : World) : (callFunc 246 #[.pointer (some a)]).run Tryz.prog w = .ok (.value (.tuple #[])) w := run_call_marked Tryz.func246 (by kernel_rfl) (by kernel_rfl) (by kernel_rfl) .releaseMerge (by kernel_rfl) a w

set_option maxRecDepth 100000 in
theorem ilock_free (a : Addr) (w : World) (hc : w.cell? a = some (.int .i32 0)) (hz : w.frozen? a = false) :
    Calls Tryz.prog 224 #[.pointer (some a)] w fun e w' => e = .returned (.tuple #[]) ∧ w' = w.setCell a (.int .i32 1) := by
  have hd := race_disable
  have he := race_enable
  have ha := race_acquire
  have hcas := run_call_cas_hit (P := Tryz.prog) Tryz.func242 (by kernel_rfl) (by kernel_rfl) (by kernel_rfl) .i32 (by kernel_rfl) (y := 1) hc hz
  have hc' : (w.setCell a (.int .i32 1)).cell? a = some (.int .i32 1) := World.cell?_setCell_same w a _ hc
  have hcv := run_convert_to_unsafe (P := Tryz.prog) (src := 256) (dst := 199) Tryz.underlying256 Tryz.underlying199 (by kernel_rfl) hc'
  go_enter Tryz.func224, Tryz.ntmps224
  go_wp2
  first | go_end0 | (simp only [Exit.inBlock, Exit.then]; refine bodyPost_ret (results_none rfl _ _ _) rfl ?_) | refine bodyPost_ret (results_none rfl _ _ _) rfl ?_
  exact ⟨rfl, rfl⟩

set_option maxRecDepth 100000 in
theorem lock_free (b o : Nat) (w : World) (hc : w.cell? ⟨b, o, none⟩ = some (.int .i32 0)) (hz : w.frozen? ⟨b, o, none⟩ = false) :
    Calls Tryz.prog 207 #[.pointer (some ⟨b, o, none⟩)] w fun e w' => e = .returned (.tuple #[]) ∧ w' = w.setCell ⟨b, o, none⟩ (.int .i32 1) := by
  have hL := Lib.hid (ilock_free ⟨b, o, none⟩ w hc hz)
  go_enter Tryz.func207, Tryz.ntmps207
  go_wp2_with fail
  refine hL.out.mono ?_
  rintro e w' ⟨rfl, rfl⟩
  go_wp2_with fail
  go_end0
  exact ⟨rfl, rfl⟩

set_option maxRecDepth 100000 in
theorem iunlock (a : Addr) (w : World) (hc : w.cell? a = some (.int .i32 1)) (hz : w.frozen? a = false) :
    Calls Tryz.prog 225 #[.pointer (some a)] w fun e w' => e = .returned (.tuple #[]) ∧ w' = w.setCell a (.int .i32 0) := by
  have hd := race_disable
  have he := race_enable
  have hr := race_release
  have hadd := run_call_add (P := Tryz.prog) Tryz.func247 (by kernel_rfl) (by kernel_rfl) (by kernel_rfl) .i32 (by kernel_rfl) (y := -1) (s := 0) hc hz (by simp [go_sem]; rfl)
  have hcv := run_convert_to_unsafe (P := Tryz.prog) (src := 256) (dst := 199) Tryz.underlying256 Tryz.underlying199 (by kernel_rfl) hc
  go_enter Tryz.func225, Tryz.ntmps225
  go_wp2
  go_end0
  exact ⟨rfl, rfl⟩

set_option maxRecDepth 100000 in
theorem unlock_deferred (b o : Nat) (u : FrameMode) (w : World) (hc : w.cell? ⟨b, o, none⟩ = some (.int .i32 1)) (hz : w.frozen? ⟨b, o, none⟩ = false) :
    CallsD Tryz.prog 208 #[.pointer (some ⟨b, o, none⟩)] u w fun e u' w' => u' = u ∧ (e = .returned (.tuple #[]) ∧ w' = w.setCell ⟨b, o, none⟩ (.int .i32 0)) := by
  have hL := Lib.hid (iunlock ⟨b, o, none⟩ w hc hz)
  go_enter_d Tryz.func208, Tryz.ntmps208
  go_wp2_with fail
  refine hL.out.mono ?_
  rintro e w' ⟨rfl, rfl⟩
  go_wp2_with fail
  go_end0
  exact ⟨rfl, rfl⟩

set_option maxRecDepth 100000 in
theorem store_deferred (a : Addr) (x : Value) (u : FrameMode) (w : World) (hc : w.cell? a = some x) (hz : w.frozen? a = false) :
    CallsD Tryz.prog 209 #[.pointer (some a), .bool true] u w fun e u' w' => u' = u ∧ (e = .returned (.tuple #[]) ∧ w' = w.drew.setCell a (.int .u32 1)) := by
  have hc' : w.drew.cell? a = some x := by go_simp
  have hz' : w.drew.frozen? a = false := by go_simp
  have hst := run_call_store (P := Tryz.prog) Tryz.func226 (by kernel_rfl) (by kernel_rfl) (by kernel_rfl) (by kernel_rfl) (k := .u32) (y := 1) hc' hz'
  go_enter_d Tryz.func209, Tryz.ntmps209
  go_wp2
  go_region_calls
  all_goals (go_end0; exact ⟨rfl, rfl⟩)

theorem load_zero (b o : Nat) (w : World) (h0 : w.cell? ⟨b, o, none⟩ = some (.int .u32 0)) :
    Calls Tryz.prog 183 #[.pointer (some ⟨b, o, none⟩)] w fun e w' => e = .returned (.bool false) ∧ w = w' := by
  have hl := run_call_load (P := Tryz.prog) Tryz.func206 (by kernel_rfl) (by kernel_rfl) (by kernel_rfl) .u32 (by kernel_rfl) h0
  go_enter Tryz.func183, Tryz.ntmps183
  go_wp2
  go_ret
  exact ⟨rfl, rfl⟩

end Go.Proofs.YtbjlkdenkmbepaaGreatDoor

namespace Go.Proofs.YtbjlkdenkmbepaaGreatDoor
open Go.RowKit
set_option linter.unusedVariables false

/-- what is replaced, and by what. -/
def oldL : List (List UInt8) := [[10], [92, 110], [92], [92, 92]]
/-- a block's cells, and that it may be written. -/
def IsB (w : World) (i : Nat) (V : Array Value) : Prop := (∀ o, w.cell? ⟨i, o, none⟩ = V[o]?) ∧ (∀ o, w.frozen? ⟨i, o, none⟩ = false) ∧ i < w.heap.size
/-- a row of the four texts in block q. -/
def OldAt (w : World) (q o : Nat) : Prop := q < w.heap.size ∧ w.cell? ⟨q, o, none⟩ = some (S [10]) ∧ w.cell? ⟨q, o + 1, none⟩ = some (S [92, 110]) ∧ w.cell? ⟨q, o + 2, none⟩ = some (S [92]) ∧ w.cell? ⟨q, o + 3, none⟩ = some (S [92, 92])
def NewRp (w : World) (e : Ending) (w' : World) : Prop := ∃ R q o c, e = .returned (.pointer (some ⟨R, 0, none⟩)) ∧ w.heap.size ≤ q ∧ q < R ∧ 4 ≤ c ∧
  IsB w' R #[.int .u32 0, .int .i32 0, .int .u32 0, .nilIface, .slice (some ⟨q, o, none⟩) 4 c] ∧ OldAt w' q o ∧ Below w.heap.size w w'
theorem oldL_oneCell : ∀ x ∈ oldL.flatMap strC, x.oneCell' = true := by decide

set_option maxRecDepth 100000 in
theorem newReplacer_any (v : Value) (w : World) (h : RdL w 1 strC v oldL) :
    Calls Tryz.prog 128 #[v] w (NewRp w) := by
  obtain ⟨A, c, rfl, _, _⟩ := h.form
  obtain ⟨i0, hi, hz0, hz1, hz2⟩ := info_parts str_info
  have hl : oldL.length = 4 := rfl
  rw [hl]
  have H := Lib.hid h
  rw [hl] at H
  clear hl h
  go_enter Tryz.func128, Tryz.ntmps128
  go_wp2_with (at_builtin; refine wpList_append_any _ rfl _ _ 28 rfl w.heap.size 9 i0 _ 1 16 Tryz.underlying28 hi hz0 hz1 hz2 rfl (by decide) _ _ _ rfl (World.ownsRow_nil _ _ _ _) _ 4 _ rfl H.out oldL_oneCell (by unfold maxLen; omega) (by omega) (Nat.le_refl _) ?_; intro v1 w1 how hgr; obtain ⟨A1, c1, rfl, -, hc1⟩ := (RdL.of_own (f := strC) (bs := oldL) (by have h4 := how; simp only [List.nil_append, Nat.zero_add] at h4; exact h4)).form; have hl1 : oldL.length = 4 := rfl; rw [hl1] at how hc1 ⊢; clear hl1)
  have hW : Below w.heap.size w w1 := up_grown (Below.refl _ _) hgr (fun k hk => by cases hk)
  have hR : RdL w1 1 strC (.slice A1 4 c1) oldL := RdL.of_own (f := strC) (bs := oldL) (by have h4 := how; simp only [List.nil_append, Nat.zero_add] at h4; exact h4)
  obtain ⟨q, o, rfl, hq, k0⟩ := hR.cells strC_len (show 0 < oldL.length by decide)
  obtain ⟨q', o', e1, -, k1⟩ := hR.cells strC_len (show 1 < oldL.length by decide)
  obtain ⟨q2, o2, e2, -, k2⟩ := hR.cells strC_len (show 2 < oldL.length by decide)
  obtain ⟨q3, o3, e3, -, k3⟩ := hR.cells strC_len (show 3 < oldL.length by decide)
  injection e1 with e1; injection e1 with e1 e1'; subst e1; subst e1'
  injection e2 with e2; injection e2 with e2 e2'; subst e2; subst e2'
  injection e3 with e3; injection e3 with e3 e3'; subst e3; subst e3'
  have hlow := own_lt how (Nat.le_refl _) q rfl
  go_ret
  refine ⟨w1.heap.size, q, o, c1, rfl, hlow, hq, hc1, ⟨fun j => by simp [go_sem], fun j => by simp [go_sem], by simp⟩, ⟨by simp; omega, ?_, ?_, ?_, ?_⟩, by (repeat (first | exact Below.refl _ _ | assumption | refine Below.drew ?_ | refine up_drewN ?_ _ | refine up_alloc ?_ _ | refine up_set ?_ _ _ (by first | exact Nat.le_refl _ | (simp; done) | (simp; omega) | omega) | refine up_trans ?_ (by assumption)))⟩
  · rw [World.cell?_alloc_past _ _ _ hq]; exact k0 0 _ rfl
  · rw [World.cell?_alloc_past _ _ _ hq]; exact k1 0 _ rfl
  · rw [World.cell?_alloc_past _ _ _ hq]; exact k2 0 _ rfl
  · rw [World.cell?_alloc_past _ _ _ hq]; exact k3 0 _ rfl

end Go.Proofs.YtbjlkdenkmbepaaGreatDoor

namespace Go.Proofs.YtbjlkdenkmbepaaGreatDoor
open Go.RowKit
set_option linter.unusedVariables false

abbrev zT : TypeId := 214
theorem zero_tab : Tryz.zeroCells214 = Array.replicate 257 (.slice none 0 0) := by kernel_rfl
theorem store_tab (w : World) (v : Value) (h1 : v.oneCell' = true) :
    (storeCells ⟨w.heap.size, 0, none⟩ (Tryz.zeroCells214.toList.set 256 v)).run Tryz.prog (w.alloc (.cells Tryz.zeroCells214 214)) = .ok () (w.alloc (.cells ((Array.replicate 257 (.slice none 0 0)).setIfInBounds 256 v) 214)) := by
  rw [zero_tab]
  have h := run_storeCells_new (P := Tryz.prog) w 214 (Array.replicate 257 (.slice none 0 0)) ((Array.replicate 257 (.slice none 0 0)).setIfInBounds 256 v) (by rw [Array.size_setIfInBounds, Array.size_replicate]; kernel_rfl) (by simp) (by
    rw [← Array.all_toList, List.all_eq_true]
    intro x hx
    rw [Array.toList_setIfInBounds] at hx
    rcases List.mem_or_eq_of_mem_set hx with h | h
    · rw [Array.toList_replicate] at h
      rw [(List.mem_replicate.1 h).2]
      rfl
    · rw [h]; exact h1)
  rw [Array.toList_setIfInBounds] at h
  exact h

theorem own_sl {w : World} {base : Nat} {e : TypeId} {v : Value} {n : Nat} {xs : List Value} (h : Own w base e 1 v n xs) (hx : xs ≠ []) : ∃ T c, v = .slice (some ⟨T, 0, none⟩) n c ∧ base ≤ T ∧ T < w.heap.size := by
  obtain ⟨hl, ⟨_, h0⟩ | ⟨g, cap, cur, rfl, h1, h2, h3, h4⟩⟩ := h
  · subst h0
    exact absurd (List.eq_nil_of_length_eq_zero (by simpa using hl)) hx
  · exact ⟨g, cap, rfl, h1, (Array.getElem?_eq_some_iff.1 h2).1⟩
theorem gcell {a b : World} {T k j : Nat} (hg : a.grownBy b (some T)) (hk : k < a.heap.size) (hn : k ≠ T) : b.cell? ⟨k, j, none⟩ = a.cell? ⟨k, j, none⟩ :=
  World.cell?_of_block (hg.block k hk (by simpa using hn))
theorem gfrz {a b : World} {T k j : Nat} (hg : a.grownBy b (some T)) (hk : k < a.heap.size) (hn : k ≠ T) : b.frozen? ⟨k, j, none⟩ = a.frozen? ⟨k, j, none⟩ :=
  World.frozen?_of_block (hg.block k hk (by simpa using hn))
/-- a string of one byte. -/
theorem byte_str (w : World) (x : UInt8) (n : Int) (hn : n = (x.toNat : Int)) : (convert 22 9 (.slice (some ⟨w.heap.size, 0, none⟩) 1 1)).run Tryz.prog (w.alloc (.cells #[.int .u8 n] 5)) = .ok (S [x]) (w.alloc (.cells #[.int .u8 n] 5)) := by
  subst hn
  refine run_convert_bytes_back (l := [x]) _ _ _ _ _ _ Tryz.underlying22 Tryz.underlying5 Tryz.underlying9 (fun j hj => ?_)
  obtain rfl : j = 0 := by simp at hj; omega
  exact cells_new w [.int .u8 (x.toNat : Int)] 5 0 _ rfl
/-- the bytes of a string of two. -/
theorem two_bytes (w : World) (x y : UInt8) : ∃ gc w6, (convert 9 22 (S [x, y])).run Tryz.prog w = .ok (.slice (some ⟨w.heap.size, 0, none⟩) 2 gc) w6 ∧ Below w.heap.size w w6 ∧ w.heap.size < w6.heap.size ∧
    w6.cell? ⟨w.heap.size, 0, none⟩ = some (.int .u8 x.toNat) ∧ w6.cell? ⟨w.heap.size, 1, none⟩ = some (.int .u8 y.toNat) :=
  ⟨_, _, Lib.run_convert_string_bytes w 9 22 5 _ Tryz.underlying9 Tryz.underlying22 Tryz.underlying5, Lib.bytesWorld_below w _ _, by rw [Lib.bytesWorld_size]; omega, Lib.bytesWorld_cell w _ _ 0 (show 0 < 2 by omega), Lib.bytesWorld_cell w _ _ 1 (show 1 < 2 by omega)⟩
/-- what stands in the table at byte k: a row of two bytes, in a block that is neither B nor T. -/
def rowAt (n : Nat) (w : World) (B T k : Nat) (x y : Int) : Prop := ∃ a c, n ≤ a ∧ w.cell? ⟨B, k, none⟩ = some (.slice (some ⟨a, 0, none⟩) 2 c) ∧ a ≠ B ∧ a ≠ T ∧ a < w.heap.size ∧ w.cell? ⟨a, 0, none⟩ = some (.int .u8 x) ∧ w.cell? ⟨a, 1, none⟩ = some (.int .u8 y)
def tabHas (n : Nat) (w : World) (B T k : Nat) (x y : Int) (b : Bool) : Prop := (b = false → w.cell? ⟨B, k, none⟩ = some (.slice none 0 0)) ∧ (b = true → rowAt n w B T k x y)
/-- the table under way. -/
structure TbS (w wr : World) (B T : Nat) (xs : List (List UInt8)) (r10 r92 : Bool) : Prop where
  below : Below w.heap.size w wr
  lt : B < wr.heap.size
  ltT : T < wr.heap.size
  base : w.heap.size ≤ B
  baseT : w.heap.size ≤ T
  ne : T ≠ B
  frz : ∀ k, wr.frozen? ⟨B, k, none⟩ = false
  nils : ∀ k, k < 256 → k ≠ 10 → k ≠ 92 → wr.cell? ⟨B, k, none⟩ = some (.slice none 0 0)
  t10 : tabHas w.heap.size wr B T 10 92 110 r10
  t92 : tabHas w.heap.size wr B T 92 92 92 r92
  own : ∃ c, wr.cell? ⟨B, 256, none⟩ = some (.slice (some ⟨T, 0, none⟩) xs.length c) ∧ Own wr w.heap.size 9 1 (.slice (some ⟨T, 0, none⟩) xs.length c) xs.length (xs.flatMap strC)

def BuildPost (w : World) (e : Ending) (w' : World) : Prop := ∃ B T, e = .returned (.iface 215 (.pointer (some ⟨B, 0, none⟩))) ∧ TbS w w' B T [[92], [10]] true true
theorem tab_new {w w1 w2 : World} (how : Own w1 w.heap.size 9 1 (.slice (some ⟨w.heap.size, 0, none⟩) 0 2) 0 []) (hgr : w.grownBy w1 none)
    (hw2 : w2 = w1.alloc (Obj.cells ((Array.replicate 257 (Value.slice none 0 0)).setIfInBounds 256 (Value.slice (some ⟨w.heap.size, 0, none⟩) 0 2)) 214)) : TbS w w2 w1.heap.size w.heap.size [] false false := by
  have hlow : w.heap.size < w1.heap.size := by
    obtain ⟨_, h | ⟨g, cap, cur, h, h1, h2, _⟩⟩ := how
    · cases h.1
    · have h3 := (Array.getElem?_eq_some_iff.1 h2).1
      injection h with h _ _
      injection h with h
      injection h with h
      omega
  have cn : ∀ k, w2.cell? ⟨w1.heap.size, k, none⟩ = ((Array.replicate 257 (Value.slice none 0 0)).setIfInBounds 256 (Value.slice (some ⟨w.heap.size, 0, none⟩) 0 2))[k]? := fun k => by rw [hw2]; simp only [go_sem]
  have c0 : ∀ k, k < 256 → w2.cell? ⟨w1.heap.size, k, none⟩ = some (.slice none 0 0) := fun k hk => by
    rw [cn, Array.getElem?_setIfInBounds_ne (by omega), Array.getElem?_replicate, if_pos (by omega)]
  refine ⟨by rw [hw2]; exact up_alloc (up_grown (Below.refl _ _) hgr (fun k hk => by cases hk)) _, by rw [hw2]; simp, by rw [hw2]; simp; omega, by omega, Nat.le_refl _, by omega, fun k => by rw [hw2]; simp [go_sem], fun k h1 _ _ => c0 k h1, ⟨fun _ => c0 10 (by decide), fun e => by cases e⟩, ⟨fun _ => c0 92 (by decide), fun e => by cases e⟩, ⟨2, ?_, ?_⟩⟩
  · rw [cn, Array.getElem?_setIfInBounds_self_of_lt (by simp)]
    rfl
  · rw [hw2]
    exact how.alloc _
theorem tab_step {w wr w5 w7 : World} {B T T5 tc5 k : Nat} {x y : UInt8} {xs ys : List (List UInt8)} {r10 r92 : Bool} (h : TbS w wr B T xs r10 r92) (hk : (k = 10 ∧ x = 92 ∧ y = 110) ∨ (k = 92 ∧ x = 92 ∧ y = 92))
    (cB : ∀ i j, i < wr.heap.size → i ≠ T → w5.cell? ⟨i, j, none⟩ = wr.cell? ⟨i, j, none⟩) (hown : Own w5 w.heap.size 9 1 (.slice (some ⟨T5, 0, none⟩) ys.length tc5) ys.length (ys.flatMap strC)) (hb5 : Below w.heap.size w w5) (hTT : T5 = T ∨ wr.heap.size ≤ T5)
    (hT5 : w.heap.size ≤ T5) (hT5z : T5 < w5.heap.size) (hz5 : B < w5.heap.size) (hs5 : wr.heap.size ≤ w5.heap.size) (fB : ∀ j, w5.frozen? ⟨B, j, none⟩ = false) (hw7 : w7 = w5.setCell ⟨B, 256, none⟩ (.slice (some ⟨T5, 0, none⟩) ys.length tc5)) :
    B < w7.heap.size ∧ (∀ j, w7.frozen? ⟨B, j, none⟩ = false) ∧ w7.cell? ⟨B, k, none⟩ = wr.cell? ⟨B, k, none⟩ ∧ ∀ w6 gc, Below w7.heap.size w7 w6 → w7.heap.size < w6.heap.size → w6.cell? ⟨w7.heap.size, 0, none⟩ = some (.int .u8 x.toNat) → w6.cell? ⟨w7.heap.size, 1, none⟩ = some (.int .u8 y.toNat) →
      TbS w (w6.setCell ⟨B, k, none⟩ (.slice (some ⟨w7.heap.size, 0, none⟩) 2 gc)) B T5 ys (r10 || k == 10) (r92 || k == 92) := by
  have hk2 : k ≠ 256 := by rcases hk with ⟨rfl, _⟩ | ⟨rfl, _⟩ <;> decide
  have nTB : T5 ≠ B := by rcases hTT with e | e; rw [e]; exact h.ne; have := h.lt; omega
  have s7 : w7.heap.size = w5.heap.size := by rw [hw7]; simp
  have c5 : ∀ j, w5.cell? ⟨B, j, none⟩ = wr.cell? ⟨B, j, none⟩ := fun j => cB B j h.lt h.ne.symm
  have c7 : ∀ j, j ≠ 256 → w7.cell? ⟨B, j, none⟩ = wr.cell? ⟨B, j, none⟩ := fun j hj => by
    rw [hw7, World.cell?_setCell_other _ ⟨B, 256, none⟩ ⟨B, j, none⟩ _ (by intro e; injection e with _ e; exact hj e.symm), c5]
  obtain ⟨tc, c256, _⟩ := h.own
  have c7t : w7.cell? ⟨B, 256, none⟩ = some (.slice (some ⟨T5, 0, none⟩) ys.length tc5) := by
    rw [hw7]
    exact World.cell?_setCell_same _ _ _ ((c5 256).trans c256)
  have o7 : ∀ i j, i ≠ B → w7.cell? ⟨i, j, none⟩ = w5.cell? ⟨i, j, none⟩ := fun i j hi => by
    rw [hw7, World.cell?_setCell_other _ ⟨B, 256, none⟩ ⟨i, j, none⟩ _ (by intro e; injection e with e _; exact hi e.symm)]
  have f7 : ∀ j, w7.frozen? ⟨B, j, none⟩ = false := fun j => by rw [hw7]; simp [fB j]
  have b7 : Below w.heap.size w w7 := by rw [hw7]; exact up_set hb5 _ _ h.base
  have own7 : Own w7 w.heap.size 9 1 (.slice (some ⟨T5, 0, none⟩) ys.length tc5) ys.length (ys.flatMap strC) := by
    rw [hw7]
    exact own_setn hown _ _ (fun g hg => by injection hg with hg; rw [← hg]; exact nTB)
  have hz7 : B < w7.heap.size := by omega
  refine ⟨hz7, f7, c7 k hk2, fun w6 gc hb6 hz6 n0 n1 => ?_⟩
  have c6 : ∀ i j, i < w7.heap.size → w6.cell? ⟨i, j, none⟩ = w7.cell? ⟨i, j, none⟩ := fun i j hi => hb6.cell (p := ⟨i, j, none⟩) hi
  obtain ⟨w8, hw8⟩ : ∃ z, z = w6.setCell ⟨B, k, none⟩ (.slice (some ⟨w7.heap.size, 0, none⟩) 2 gc) := ⟨_, rfl⟩
  have s8 : w8.heap.size = w6.heap.size := by rw [hw8]; simp
  have c8 : ∀ j, j ≠ k → w8.cell? ⟨B, j, none⟩ = w7.cell? ⟨B, j, none⟩ := fun j hj => by
    rw [hw8, World.cell?_setCell_other _ ⟨B, k, none⟩ ⟨B, j, none⟩ _ (by intro e; injection e with _ e; exact hj e.symm), c6 B j hz7]
  have o8 : ∀ i j, i ≠ B → w8.cell? ⟨i, j, none⟩ = w6.cell? ⟨i, j, none⟩ := fun i j hi => by
    rw [hw8, World.cell?_setCell_other _ ⟨B, k, none⟩ ⟨i, j, none⟩ _ (by intro e; injection e with e _; exact hi e.symm)]
  have c8k : w8.cell? ⟨B, k, none⟩ = some (.slice (some ⟨w7.heap.size, 0, none⟩) 2 gc) := by
    rw [hw8]
    have hx : ∃ v, wr.cell? ⟨B, k, none⟩ = some v := by
      rcases hk with ⟨rfl, _⟩ | ⟨rfl, _⟩
      · cases r10 with
        | false => exact ⟨_, h.t10.1 rfl⟩
        | true => obtain ⟨a, c, _, hc, _⟩ := h.t10.2 rfl; exact ⟨_, hc⟩
      · cases r92 with
        | false => exact ⟨_, h.t92.1 rfl⟩
        | true => obtain ⟨a, c, _, hc, _⟩ := h.t92.2 rfl; exact ⟨_, hc⟩
    obtain ⟨v, hv⟩ := hx
    exact World.cell?_setCell_same _ _ _ ((c6 B k hz7).trans ((c7 k hk2).trans hv))
  have newRow : rowAt w.heap.size w8 B T5 k x.toNat y.toNat := ⟨w7.heap.size, gc, b7.size, c8k, by omega, by omega, by omega, (o8 _ _ (by omega)).trans n0, (o8 _ _ (by omega)).trans n1⟩
  have oldRow : ∀ i u v, i ≠ k → i ≠ 256 → rowAt w.heap.size wr B T i u v → rowAt w.heap.size w8 B T5 i u v := fun i u v hi hi2 ⟨a, c, r0, r1, r2, r3, r4, r5, r6⟩ => by
    have e : ∀ j, w8.cell? ⟨a, j, none⟩ = wr.cell? ⟨a, j, none⟩ := fun j => by rw [o8 a j r2, c6 a j (by omega), o7 a j r2, cB a j r4 r3]
    exact ⟨a, c, r0, by rw [c8 i hi, c7 i hi2]; exact r1, r2, by rcases hTT with h1 | h1; rw [h1]; exact r3; omega, by omega, by rw [e]; exact r5, by rw [e]; exact r6⟩
  rw [← hw8]
  refine ⟨by rw [hw8]; exact up_set (b7.trans (hb6.mono b7.size)) _ _ h.base, by omega, by omega, h.base, hT5, nTB, fun j => by rw [hw8]; simp [hb6.frozen (p := ⟨B, j, none⟩) hz7, f7 j], fun j h1 h2 h3 => ?_, ?_, ?_, ⟨tc5, by rw [c8 256 hk2.symm]; exact c7t, by rw [hw8]; exact own_setn (own_up own7 hb6) _ _ (fun g hg => by injection hg with hg; rw [← hg]; exact nTB)⟩⟩
  · rw [c8 j (by rcases hk with ⟨rfl, _⟩ | ⟨rfl, _⟩ <;> assumption), c7 j (by omega)]
    exact h.nils j h1 h2 h3
  · rcases hk with ⟨rfl, rfl, rfl⟩ | ⟨rfl, rfl, rfl⟩
    · exact ⟨fun e => by simp at e, fun _ => newRow⟩
    · refine ⟨fun e => ?_, fun e => ?_⟩
      · rw [c8 10 (by decide), c7 10 (by decide)]
        exact h.t10.1 (by simpa using e)
      · exact oldRow 10 _ _ (by decide) (by decide) (h.t10.2 (by simpa using e))
  · rcases hk with ⟨rfl, rfl, rfl⟩ | ⟨rfl, rfl, rfl⟩
    · refine ⟨fun e => ?_, fun e => ?_⟩
      · rw [c8 92 (by decide), c7 92 (by decide)]
        exact h.t92.1 (by simpa using e)
      · exact oldRow 92 _ _ (by decide) (by decide) (h.t92.2 (by simpa using e))
    · exact ⟨fun e => by simp at e, fun _ => newRow⟩

set_option maxRecDepth 100000 in
set_option maxHeartbeats 2000000 in
theorem build_any (R q o c : Nat) (w : World) (h4 : w.cell? ⟨R, 4, none⟩ = some (.slice (some ⟨q, o, none⟩) 4 c)) (hO : OldAt w q o) :
    Calls Tryz.prog 185 #[.pointer (some ⟨R, 0, none⟩)] w (BuildPost w) := by
  obtain ⟨hq, o0, o1, o2, o3⟩ := hO
  have he : ∀ w : World, (binOp .eql 22 (.slice none 0 0) (.slice none 0 0)).run Tryz.prog w = .ok (.bool true) w := fun _ => rfl
  obtain ⟨i0, hi, hz0, hz1, hz2⟩ := info_parts str_info
  go_enter Tryz.func185, Tryz.ntmps185
  go_wp2_with fail
  go_loop [4, 5] (fun b i => (i = .int .i64 0 ∧ b = .bool true) ∨ (i = .int .i64 2 ∧ b = .bool false) ∨ (i = .int .i64 4 ∧ b = .bool false)) (fun _ i => (4 - intOf i).toNat)
  case atStart => exact .inl ⟨rfl, rfl⟩
  case round =>
    rcases hrel with ⟨rfl, rfl⟩ | ⟨rfl, rfl⟩ | ⟨rfl, rfl⟩
    · go_wp2_with fail
      go_round
      case rel => exact .inr (.inl ⟨rfl, rfl⟩)
      case measure => simp [intOf]
    · go_wp2_with fail
      go_round
      case rel => exact .inr (.inr ⟨rfl, rfl⟩)
      case measure => simp [intOf]
    · go_upto_region 27 with (at_make; refine wpList_make_own _ rfl _ _ 28 rfl w.heap.size 9 i0 _ 1 Tryz.underlying28 hi hz0 hz1 _ _ _ 2 rfl rfl rfl (by rw [hz2]; omega) (by unfold maxLen; omega) (Nat.le_refl _) ?_; intro w1 how hgr; have hst := store_tab w1 (.slice (some ⟨w.heap.size, 0, none⟩) 0 2) rfl)
      obtain ⟨w2, hw2⟩ : ∃ z, z = w1.alloc (Obj.cells ((Array.replicate 257 (Value.slice none 0 0)).setIfInBounds 256 (Value.slice (some ⟨w.heap.size, 0, none⟩) 0 2)) 214) := ⟨_, rfl⟩
      have HS : TbS w w2 w1.heap.size w.heap.size [] false false := tab_new how hgr hw2
      rw [← hw2]
      obtain ⟨B, hB⟩ : ∃ B, B = w1.heap.size := ⟨_, rfl⟩
      rw [← hB] at HS ⊢
      clear hw2 hB how hgr hst
      obtain ⟨T0, hT0⟩ : ∃ T, T = w.heap.size := ⟨_, rfl⟩
      rw [← hT0] at HS
      have HT0 := Lib.hid hT0
      clear hT0
      go_wp2_with fail
      go_loopw [12, 13, 14] (fun i x y wr => ∃ T, (i = .int .i64 2 ∧ TbS w wr B T [] false false) ∨ (i = .int .i64 0 ∧ TbS w wr B T [[92]] false true) ∨ (i = .int .i64 (-2) ∧ TbS w wr B T [[92], [10]] true true)) (fun i _ _ _ => (intOf i + 2).toNat)
      case atStart => exact ⟨T0, .inl ⟨rfl, HS⟩⟩
      case round =>
        obtain ⟨T, ⟨rfl, HS⟩ | ⟨rfl, HS⟩ | ⟨rfl, HS⟩⟩ := hrel
        · have q2 := (HS.below.cell (p := ⟨q, o + 2, none⟩) hq).trans o2
          have q3 := (HS.below.cell (p := ⟨q, o + 3, none⟩) hq).trans o3
          have hz := HS.lt
          have hTz := HS.ltT
          have hfr := HS.frz
          have cN := HS.t92.1 rfl
          obtain ⟨tc, c256, hown⟩ := HS.own
          simp only [List.length_nil] at hown c256
          have HW := Lib.hid HS
          have HOwn := Lib.hid hown
          clear HS hown
          have hbs := byte_str wr 92 92 rfl
          go_upto_region 33 with (fail)
          go_upto_region 34 with (at_builtin; go_loud (
             refine wpList_append_own_at _ rfl _ _ 28 rfl w.heap.size 9 i0 _ 1 16 Tryz.underlying28 hi hz0 hz1 hz2 rfl (by decide) _ _ _ rfl ((HOwn.out.alloc _).alloc _) ⟨wr.heap.size + 1, 0, none⟩ 1 1 [S [92]] rfl rfl (by have := cells_new (wr.alloc (.cells #[.int .u8 92] 5)) [S [92]] 9; simpa using this) (by intro u hu; simp at hu; subst hu; rfl) (by unfold maxLen; omega) (by omega) (by have := HW.out.base; simp; omega) ?_
             intro v5 w5 how5 hgr5 _ hob
             simp only [List.flatMap_nil, List.nil_append, Nat.zero_add] at how5
             obtain ⟨T5, tc5, rfl, hT5, hT5z⟩ := own_sl how5 (by simp)
             have gr5 : ((wr.alloc (.cells #[.int .u8 92] 5)).alloc (.cells #[S [92]] 9)).grownBy w5 (some T) := hgr5
             have hB5 : Below w.heap.size w w5 := up_grown (up_alloc (up_alloc HW.out.below _) _) gr5 (fun k hk => by have := HW.out.baseT; injection hk with hk; omega)
             have sz5 : wr.heap.size + 2 ≤ w5.heap.size := by have := gr5.size; simp at this; omega
             have hTT : T5 = T ∨ wr.heap.size ≤ T5 := by
               rcases hob with h | h
               · exact .inl (Option.some.inj h)
               · have h2 := Option.some.inj h
                 simp at h2
                 exact .inr (by omega)
             have cB : ∀ k j, k < wr.heap.size → k ≠ T → w5.cell? ⟨k, j, none⟩ = wr.cell? ⟨k, j, none⟩ := fun k j hk hn => by
               rw [gcell gr5 (by simp; omega) hn, World.cell?_alloc_past _ _ _ (by simp; omega), World.cell?_alloc_past _ _ _ hk]
             have fB : ∀ j, w5.frozen? ⟨B, j, none⟩ = false := fun j => by
               rw [gfrz gr5 (by simp; omega) HW.out.ne.symm, World.frozen?_alloc_past _ _ _ (by simp; omega), World.frozen?_alloc_past _ _ _ hz, hfr j]
             have b256 := (cB B 256 hz HW.out.ne.symm).trans c256
             have CB := Lib.hid cB
             have HO5 := Lib.hid how5
             have GR5 := Lib.hid hB5
             have hz5 : B < w5.heap.size := by omega
             clear cB how5 gr5 hgr5 hob hB5 c256 hfr hbs HOwn; replace cN := Lib.hid cN))
          obtain ⟨w7, hw7⟩ : ∃ z, z = w5.setCell ⟨B, 256, none⟩ (.slice (some ⟨T5, 0, none⟩) 1 tc5) := ⟨_, rfl⟩
          obtain ⟨z7, f7, b7, G⟩ := tab_step (k := 92) (x := 92) (y := 92) (ys := [[92]]) HW.out (Or.inr ⟨rfl, rfl, rfl⟩) CB.out HO5.out GR5.out hTT hT5 hT5z hz5 (by omega) fB hw7
          rw [← hw7]
          replace b7 := b7.trans cN.out
          clear hw7 b256 fB
          obtain ⟨gc, w6, cv, hb6, hz6, n0, n1⟩ := two_bytes w7 92 92
          have b6 := (hb6.cell (p := ⟨B, 92, none⟩) z7).trans b7
          have f6 : w6.frozen? ⟨B, 92, none⟩ = false := (hb6.frozen (p := ⟨B, 92, none⟩) z7).trans (f7 92)
          have GG := Lib.hid (G w6 gc hb6 hz6 n0 n1)
          clear G b7 f7 hb6 hz6 n0 n1
          go_wp2_with fail
          go_roundw
          case rel => exact ⟨T5, .inr (.inl ⟨by go_num, GG.out⟩)⟩
          case measure => simp [intOf]
        · have q0 := (HS.below.cell (p := ⟨q, o, none⟩) hq).trans o0
          have q1 := (HS.below.cell (p := ⟨q, o + 1, none⟩) hq).trans o1
          have hz := HS.lt
          have hTz := HS.ltT
          have hfr := HS.frz
          have cN := HS.t10.1 rfl
          obtain ⟨tc, c256, hown⟩ := HS.own
          simp only [List.length_cons, List.length_nil, Nat.zero_add] at hown c256
          have HW := Lib.hid HS
          have HOwn := Lib.hid hown
          clear HS hown
          have hbs := byte_str wr 10 10 rfl
          go_upto_region 33 with (fail)
          go_upto_region 34 with (at_builtin; go_loud (
             refine wpList_append_own_at _ rfl _ _ 28 rfl w.heap.size 9 i0 _ 1 16 Tryz.underlying28 hi hz0 hz1 hz2 rfl (by decide) _ _ _ rfl ((HOwn.out.alloc _).alloc _) ⟨wr.heap.size + 1, 0, none⟩ 1 1 [S [10]] rfl rfl (by have := cells_new (wr.alloc (.cells #[.int .u8 10] 5)) [S [10]] 9; simpa using this) (by intro u hu; simp at hu; subst hu; rfl) (by unfold maxLen; omega) (by omega) (by have := HW.out.base; simp; omega) ?_
             intro v5 w5 how5 hgr5 _ hob
             simp only [List.flatMap_cons, List.flatMap_nil, List.append_nil, Nat.reduceAdd] at how5
             obtain ⟨T5, tc5, rfl, hT5, hT5z⟩ := own_sl how5 (by simp)
             have gr5 : ((wr.alloc (.cells #[.int .u8 10] 5)).alloc (.cells #[S [10]] 9)).grownBy w5 (some T) := hgr5
             have hB5 : Below w.heap.size w w5 := up_grown (up_alloc (up_alloc HW.out.below _) _) gr5 (fun k hk => by have := HW.out.baseT; injection hk with hk; omega)
             have sz5 : wr.heap.size + 2 ≤ w5.heap.size := by have := gr5.size; simp at this; omega
             have hTT : T5 = T ∨ wr.heap.size ≤ T5 := by
               rcases hob with h | h
               · exact .inl (Option.some.inj h)
               · have h2 := Option.some.inj h
                 simp at h2
                 exact .inr (by omega)
             have cB : ∀ k j, k < wr.heap.size → k ≠ T → w5.cell? ⟨k, j, none⟩ = wr.cell? ⟨k, j, none⟩ := fun k j hk hn => by
               rw [gcell gr5 (by simp; omega) hn, World.cell?_alloc_past _ _ _ (by simp; omega), World.cell?_alloc_past _ _ _ hk]
             have fB : ∀ j, w5.frozen? ⟨B, j, none⟩ = false := fun j => by
               rw [gfrz gr5 (by simp; omega) HW.out.ne.symm, World.frozen?_alloc_past _ _ _ (by simp; omega), World.frozen?_alloc_past _ _ _ hz, hfr j]
             have b256 := (cB B 256 hz HW.out.ne.symm).trans c256
             have CB := Lib.hid cB
             have HO5 := Lib.hid how5
             have GR5 := Lib.hid hB5
             have hz5 : B < w5.heap.size := by omega
             clear cB how5 gr5 hgr5 hob hB5 c256 hfr hbs HOwn; replace cN := Lib.hid cN))
          obtain ⟨w7, hw7⟩ : ∃ z, z = w5.setCell ⟨B, 256, none⟩ (.slice (some ⟨T5, 0, none⟩) 2 tc5) := ⟨_, rfl⟩
          obtain ⟨z7, f7, b7, G⟩ := tab_step (k := 10) (x := 92) (y := 110) (ys := [[92], [10]]) HW.out (Or.inl ⟨rfl, rfl, rfl⟩) CB.out HO5.out GR5.out hTT hT5 hT5z hz5 (by omega) fB hw7
          rw [← hw7]
          replace b7 := b7.trans cN.out
          clear hw7 b256 fB
          obtain ⟨gc, w6, cv, hb6, hz6, n0, n1⟩ := two_bytes w7 92 110
          have b6 := (hb6.cell (p := ⟨B, 10, none⟩) z7).trans b7
          have f6 : w6.frozen? ⟨B, 10, none⟩ = false := (hb6.frozen (p := ⟨B, 10, none⟩) z7).trans (f7 10)
          have GG := Lib.hid (G w6 gc hb6 hz6 n0 n1)
          clear G b7 f7 hb6 hz6 n0 n1
          go_wp2_with fail
          go_roundw
          case rel => exact ⟨T5, .inr (.inr ⟨by go_num, GG.out⟩)⟩
          case measure => simp [intOf]
        · have HF := Lib.hid HS
          have i1 : ¬ (0 : Int) ≤ -2 := by omega
          clear HS
          go_wp2_with fail
          go_ret
          exact ⟨B, T, rfl, HF.out⟩

end Go.Proofs.YtbjlkdenkmbepaaGreatDoor

namespace Go.Proofs.YtbjlkdenkmbepaaGreatDoor
open Go.RowKit
set_option linter.unusedVariables false

/-- the table, to be read. -/
structure Tbl (w : World) (B : Nat) : Prop where
  lt : B < w.heap.size
  nils : ∀ k, k < 256 → k ≠ 10 → k ≠ 92 → w.cell? ⟨B, k, none⟩ = some (.slice none 0 0)
  r10 : ∃ a c, a < w.heap.size ∧ w.cell? ⟨B, 10, none⟩ = some (.slice (some ⟨a, 0, none⟩) 2 c) ∧ w.cell? ⟨a, 0, none⟩ = some (.int .u8 92) ∧ w.cell? ⟨a, 1, none⟩ = some (.int .u8 110)
  r92 : ∃ a c, a < w.heap.size ∧ w.cell? ⟨B, 92, none⟩ = some (.slice (some ⟨a, 0, none⟩) 2 c) ∧ w.cell? ⟨a, 0, none⟩ = some (.int .u8 92) ∧ w.cell? ⟨a, 1, none⟩ = some (.int .u8 92)
  own : ∃ T c, T < w.heap.size ∧ w.cell? ⟨B, 256, none⟩ = some (.slice (some ⟨T, 0, none⟩) 2 c) ∧ w.cell? ⟨T, 0, none⟩ = some (S [92]) ∧ w.cell? ⟨T, 1, none⟩ = some (S [10])
theorem Tbl.of {w wr w' : World} {B T : Nat} (h : TbS w wr B T [[92], [10]] true true) (hs : wr.heap.size ≤ w'.heap.size) (hc : ∀ i j, w.heap.size ≤ i → i < wr.heap.size → w'.cell? ⟨i, j, none⟩ = wr.cell? ⟨i, j, none⟩) : Tbl w' B := by
  have hB := h.base
  have hBz := h.lt
  have hT := h.baseT
  have hTz := h.ltT
  refine ⟨by omega, fun k h1 h2 h3 => (hc B k hB hBz).trans (h.nils k h1 h2 h3), ?_, ?_, ?_⟩
  · obtain ⟨a, c, h0, h1, h2, h3, h4, h5, h6⟩ := h.t10.2 rfl
    exact ⟨a, c, by omega, (hc B 10 hB hBz).trans h1, (hc a 0 h0 h4).trans h5, (hc a 1 h0 h4).trans h6⟩
  · obtain ⟨a, c, h0, h1, h2, h3, h4, h5, h6⟩ := h.t92.2 rfl
    exact ⟨a, c, by omega, (hc B 92 hB hBz).trans h1, (hc a 0 h0 h4).trans h5, (hc a 1 h0 h4).trans h6⟩
  · obtain ⟨c, h1, h2⟩ := h.own
    have hR := RdL.of_own (f := strC) (bs := [[92], [10]]) h2
    obtain ⟨b, o, e1, hb, k0⟩ := hR.cells strC_len (show 0 < 2 by omega)
    obtain ⟨b', o', e2, hb', k1⟩ := hR.cells strC_len (show 1 < 2 by omega)
    injection e1 with e1
    injection e1 with e1 e1'
    subst e1
    subst e1'
    injection e2 with e2
    injection e2 with e2 e2'
    subst e2
    subst e2'
    exact ⟨T, c, by omega, (hc B 256 hB hBz).trans h1, (hc T 0 hT hTz).trans (k0 0 _ rfl), (hc T 1 hT hTz).trans (k1 0 _ rfl)⟩

def OncePost (R : Nat) (w : World) (e : Ending) (w' : World) : Prop := ∃ B T w1, e = .returned (.tuple #[]) ∧ TbS w w1 B T [[92], [10]] true true ∧ w' = (w1.setCell ⟨R, 3, none⟩ (.iface 215 (.pointer (some ⟨B, 0, none⟩)))).setCell ⟨R, 4, none⟩ (.slice none 0 0)

set_option maxRecDepth 100000 in
theorem buildOnce_any (R q o c : Nat) (x3 : Value) (w : World) (hR : R < w.heap.size) (h3 : w.cell? ⟨R, 3, none⟩ = some x3) (h4 : w.cell? ⟨R, 4, none⟩ = some (.slice (some ⟨q, o, none⟩) 4 c)) (hf : ∀ j, w.frozen? ⟨R, j, none⟩ = false) (hO : OldAt w q o) :
    Calls Tryz.prog 160 #[.pointer (some ⟨R, 0, none⟩)] w (OncePost R w) := by
  have HB := Lib.hid (build_any R q o c w h4 hO)
  go_enter Tryz.func160, Tryz.ntmps160
  go_wp2_with fail
  refine HB.out.mono ?_
  rintro e w1 ⟨B, T, rfl, HS⟩
  have c3 := (HS.below.cell (p := ⟨R, 3, none⟩) hR).trans h3
  have c4 := (HS.below.cell (p := ⟨R, 4, none⟩) hR).trans h4
  have f3 : ∀ j, w1.frozen? ⟨R, j, none⟩ = false := fun j => (HS.below.frozen (p := ⟨R, j, none⟩) hR).trans (hf j)
  have hW := Lib.hid HS
  clear HS h3 h4 hf
  go_wp2_with fail
  go_end0
  exact ⟨B, T, w1, rfl, hW.out, rfl⟩

/-- behind Do: the table lies where the Replacer's cell 3 says. -/
def DoPost (R : Nat) (w : World) (e : Ending) (w' : World) : Prop := ∃ B, e = .returned (.tuple #[]) ∧ w'.cell? ⟨R, 3, none⟩ = some (.iface 215 (.pointer (some ⟨B, 0, none⟩))) ∧ Tbl w' B ∧ ∀ n, n ≤ R → Below n w w'

theorem do_fin {R B T : Nat} {w w1 w4 : World} (h : TbS w1 w4 B T [[92], [10]] true true) (kz : R < w1.heap.size) (kB : ∀ n, n ≤ R → Below n w w1) (m3 : w4.cell? ⟨R, 3, none⟩ = some .nilIface) :
    DoPost R w (.returned (.tuple #[])) ((((w4.setCell ⟨R, 3, none⟩ (.iface 215 (.pointer (some ⟨B, 0, none⟩)))).setCell ⟨R, 4, none⟩ (.slice none 0 0)).drew.setCell ⟨R, 0, none⟩ (.int .u32 1)).setCell ⟨R, 1, none⟩ (.int .i32 0)) := by
  refine ⟨B, rfl, ?_, Tbl.of h (by simp) (fun i j hi hi2 => ?_), fun n hn => ?_⟩
  · rw [World.cell?_setCell_other _ ⟨R, 1, none⟩ ⟨R, 3, none⟩ _ (by simp), World.cell?_setCell_other _ ⟨R, 0, none⟩ ⟨R, 3, none⟩ _ (by simp), World.cell?_drew, World.cell?_setCell_other _ ⟨R, 4, none⟩ ⟨R, 3, none⟩ _ (by simp)]
    exact World.cell?_setCell_same _ _ _ m3
  · have ne : ∀ k, (⟨R, k, none⟩ : Addr) ≠ ⟨i, j, none⟩ := fun k e => by injection e with e _; omega
    rw [World.cell?_setCell_other _ _ _ _ (ne _), World.cell?_setCell_other _ _ _ _ (ne _), World.cell?_drew, World.cell?_setCell_other _ _ _ _ (ne _), World.cell?_setCell_other _ _ _ _ (ne _)]
  · exact ((((((kB n hn).trans (h.below.mono (by omega))).setCell hn _).setCell hn _).drew).setCell hn _).setCell hn _

set_option maxRecDepth 100000 in
set_option maxHeartbeats 1600000 in
theorem doSlow_any (R q o c : Nat) (w : World) (hR : IsB w R #[.int .u32 0, .int .i32 0, .int .u32 0, .nilIface, .slice (some ⟨q, o, none⟩) 4 c]) (hO : OldAt w q o) (hq : q ≠ R) :
    Calls Tryz.prog 184 #[.pointer (some ⟨R, 0, none⟩), .func (.func 160) #[.pointer (some ⟨R, 0, none⟩)] #[]] w (DoPost R w) := by
  obtain ⟨hc, hf, hz⟩ := hR
  have h0 : w.cell? ⟨R, 0, none⟩ = some (.int .u32 0) := hc 0
  have h1 : w.cell? ⟨R, 1, none⟩ = some (.int .i32 0) := hc 1
  have h3 : w.cell? ⟨R, 3, none⟩ = some .nilIface := hc 3
  have h4 : w.cell? ⟨R, 4, none⟩ = some (.slice (some ⟨q, o, none⟩) 4 c) := hc 4
  obtain ⟨w1, hw1⟩ : ∃ z, z = w.setCell ⟨R, 1, none⟩ (.int .i32 1) := ⟨_, rfl⟩
  have k0 : w1.cell? ⟨R, 0, none⟩ = some (.int .u32 0) := by rw [hw1, World.cell?_setCell_other _ ⟨R, 1, none⟩ ⟨R, 0, none⟩ _ (by simp)]; exact h0
  have k1 : w1.cell? ⟨R, 1, none⟩ = some (.int .i32 1) := by rw [hw1]; exact World.cell?_setCell_same _ _ _ h1
  have k3 : w1.cell? ⟨R, 3, none⟩ = some .nilIface := by rw [hw1, World.cell?_setCell_other _ ⟨R, 1, none⟩ ⟨R, 3, none⟩ _ (by simp)]; exact h3
  have k4 : w1.cell? ⟨R, 4, none⟩ = some (.slice (some ⟨q, o, none⟩) 4 c) := by rw [hw1, World.cell?_setCell_other _ ⟨R, 1, none⟩ ⟨R, 4, none⟩ _ (by simp)]; exact h4
  have kz : R < w1.heap.size := by rw [hw1]; simpa using hz
  have kf : ∀ j, w1.frozen? ⟨R, j, none⟩ = false := fun j => by rw [hw1]; simp [hf j]
  have kO : OldAt w1 q o := by
    obtain ⟨m0, m1, m2, m3, m4⟩ := hO
    refine ⟨by rw [hw1]; simpa using m0, ?_, ?_, ?_, ?_⟩ <;> (rw [hw1, World.cell?_setCell_other _ ⟨R, 1, none⟩ ⟨q, _, none⟩ _ (by intro e; injection e with e _; exact hq e.symm)]; assumption)
  have kB : ∀ n, n ≤ R → Below n w w1 := fun n hn => by rw [hw1]; exact (Below.refl _ _).setCell hn _
  have HL := Lib.hid (lock_free R 1 w h1 (hf 1))
  have HLd := Lib.hid (load_zero R 0 w1 k0)
  have HBO := Lib.hid (buildOnce_any R q o c .nilIface w1 kz k3 k4 kf kO)
  rw [← hw1] at HL
  have k0' := k0
  have k3' := k3
  clear hw1 h0 h1 h3 h4 hc hf k0 k3 k4 kO hO
  go_enter_defers Tryz.func184, Tryz.ntmps184
  go_wp2_with fail
  refine HL.out.mono ?_
  rintro e w2 ⟨rfl, rfl⟩
  go_wp2_with fail
  refine HLd.out.mono ?_
  rintro e w3 ⟨rfl, rfl⟩
  go_wp2_with fail
  refine HBO.out.mono ?_
  rintro e w3 ⟨B, T, w4, rfl, HS, rfl⟩
  have m1 := (HS.below.cell (p := ⟨R, 1, none⟩) kz).trans k1
  have m0 := (HS.below.cell (p := ⟨R, 0, none⟩) kz).trans k0'
  have m3 := (HS.below.cell (p := ⟨R, 3, none⟩) kz).trans k3'
  have mf : ∀ j, w4.frozen? ⟨R, j, none⟩ = false := fun j => (HS.below.frozen (p := ⟨R, j, none⟩) kz).trans (kf j)
  have HT := Lib.hid HS
  clear HS HBO HLd HL k1 kf
  go_wp2
  refine leaves_cons (f := 209) (args := #[.pointer (some ⟨R, 0, none⟩), .bool true]) (by simp) (by simp [go_sem]) ?_
  refine (store_deferred ⟨R, 0, none⟩ (.int .u32 0) .returning _ ?_ (by simp [mf])).mono ?_
  · exact (World.cell?_setCell_other _ ⟨R, 4, none⟩ ⟨R, 0, none⟩ _ (by simp)).trans ((World.cell?_setCell_other _ ⟨R, 3, none⟩ ⟨R, 0, none⟩ _ (by simp)).trans m0)
  rintro e u' w'' ⟨rfl, rfl, rfl⟩
  refine leaves_cons (f := 208) (args := #[.pointer (some ⟨R, 1, none⟩)]) (by simp [settle]) (by simp [go_sem]) ?_
  refine (unlock_deferred R 1 _ _ ?_ (by simp [mf])).mono ?_
  · refine (World.cell?_setCell_other _ ⟨R, 0, none⟩ ⟨R, 1, none⟩ _ (by simp)).trans ?_
    rw [World.cell?_drew]
    exact (World.cell?_setCell_other _ ⟨R, 4, none⟩ ⟨R, 1, none⟩ _ (by simp)).trans ((World.cell?_setCell_other _ ⟨R, 3, none⟩ ⟨R, 1, none⟩ _ (by simp)).trans m1)
  rintro e u' w'' ⟨rfl, rfl, rfl⟩
  have HF := do_fin HT.out kz kB m3
  generalize ((((w4.setCell ⟨R, 3, none⟩ (.iface 215 (.pointer (some ⟨B, 0, none⟩)))).setCell ⟨R, 4, none⟩ (.slice none 0 0)).drew.setCell ⟨R, 0, none⟩ (.int .u32 1)).setCell ⟨R, 1, none⟩ (.int .i32 0)) = w9 at *
  simp [Leaves, settle, results, Tryz.results184]
  exact HF

set_option maxRecDepth 100000 in
theorem do_any (R q o c : Nat) (w : World) (hR : IsB w R #[.int .u32 0, .int .i32 0, .int .u32 0, .nilIface, .slice (some ⟨q, o, none⟩) 4 c]) (hO : OldAt w q o) (hq : q ≠ R) :
    Calls Tryz.prog 159 #[.pointer (some ⟨R, 0, none⟩), .func (.func 160) #[.pointer (some ⟨R, 0, none⟩)] #[]] w (DoPost R w) := by
  have HLd := Lib.hid (load_zero R 0 w (hR.1 0))
  have HD := Lib.hid (doSlow_any R q o c w hR hO hq)
  clear hR hO
  go_enter Tryz.func159, Tryz.ntmps159
  go_wp2_with fail
  refine HLd.out.mono ?_
  rintro e w2 ⟨rfl, rfl⟩
  go_wp2_with fail
  refine HD.out.mono ?_
  rintro e w3 ⟨B, rfl, h⟩
  have H := Lib.hid h
  clear h
  go_wp2_with fail
  go_end0
  exact ⟨B, rfl, H.out⟩

theorem IsB.up {w w' : World} {b : Nat} {A : Array Value} (h : IsB w b A) (hb : Below w.heap.size w w') : IsB w' b A :=
  ⟨fun o => (hb.cell (p := ⟨b, o, none⟩) h.2.2).trans (h.1 o), fun o => (hb.frozen (p := ⟨b, o, none⟩) h.2.2).trans (h.2.1 o), Nat.lt_of_lt_of_le h.2.2 hb.size⟩
theorem IsB.set {w : World} {b k : Nat} {A : Array Value} (h : IsB w b A) (v : Value) (hk : k < A.size) : IsB (w.setCell ⟨b, k, none⟩ v) b (A.setIfInBounds k v) := by
  refine ⟨fun o => ?_, fun o => by simp [h.2.1 o], by simpa using h.2.2⟩
  by_cases ho : o = k
  · subst ho
    rw [World.cell?_setCell_same _ ⟨b, o, none⟩ _ ((h.1 o).trans (Array.getElem?_eq_getElem hk)), Array.getElem?_setIfInBounds_self_of_lt hk]
  · rw [World.cell?_setCell_other _ ⟨b, k, none⟩ ⟨b, o, none⟩ _ (by intro e; injection e with _ e; exact ho e.symm), Array.getElem?_setIfInBounds_ne (fun e => ho e.symm)]
    exact h.1 o
theorem IsB.far {w : World} {b : Nat} {A : Array Value} (h : IsB w b A) {p : Addr} (v : Value) (hp : b ≠ p.block) : IsB (w.setCell p v) b A :=
  ⟨fun o => (World.cell?_setCell_other _ p ⟨b, o, none⟩ _ (by intro e; rw [e] at hp; exact hp rfl)).trans (h.1 o), fun o => by simp [h.2.1 o], by simpa using h.2.2⟩
theorem IsB.low {w w' : World} {b n : Nat} {A : Array Value} (h : IsB w b A) (hb : Below n w w') (hn : b < n) : IsB w' b A :=
  ⟨fun o => (hb.cell (p := ⟨b, o, none⟩) hn).trans (h.1 o), fun o => (hb.frozen (p := ⟨b, o, none⟩) hn).trans (h.2.1 o), Nat.lt_of_lt_of_le h.2.2 hb.size⟩
theorem IsB.new (w : World) (A : Array Value) (t : TypeId) : IsB (w.alloc (.cells A t)) w.heap.size A := ⟨fun o => by simp [go_sem], fun o => by simp [go_sem], by simp⟩

end Go.Proofs.YtbjlkdenkmbepaaGreatDoor
