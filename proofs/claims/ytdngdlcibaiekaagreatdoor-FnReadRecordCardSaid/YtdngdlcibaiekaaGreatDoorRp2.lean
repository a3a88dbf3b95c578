/- What is proved here: the contract of the library's (*Replacer).build at the four texts of the program: it makes a table of what stands for each byte. No condition. -/
import Derived.Test.YtdngdlcibaiekaaGreatDoorRp1
import Derived.Deep.Cut
import Derived.Deep.WholeRow
import Derived.Lib.ConvBytes
import Derived.Lib.AtoiErrMem
import Derived.Laws.IdiomStrings
namespace Go.Proofs.YtdngdlcibaiekaaGreatDoor
open Go.RowKit
set_option linter.unusedVariables false

abbrev zT : TypeId := 176
theorem zero_tab : Tryz.zeroCells176 = Array.replicate 257 (.slice none 0 0) := by kernel_rfl
theorem store_tab (w : World) (v : Value) (h1 : v.oneCell' = true) :
    (storeCells ⟨w.heap.size, 0, none⟩ (Tryz.zeroCells176.toList.set 256 v)).run Tryz.prog (w.alloc (.cells Tryz.zeroCells176 176)) = .ok () (w.alloc (.cells ((Array.replicate 257 (.slice none 0 0)).setIfInBounds 256 v) 176)) := by
  rw [zero_tab]
  have h := run_storeCells_new (P := Tryz.prog) w 176 (Array.replicate 257 (.slice none 0 0)) ((Array.replicate 257 (.slice none 0 0)).setIfInBounds 256 v) (by rw [Array.size_setIfInBounds, Array.size_replicate]; kernel_rfl) (by simp) (by
    rw [← Array.all_toList, List.all_eq_true]
    intro x hx
    rw [Array.toList_setIfInBounds] at hx
    rcases List.mem_or_eq_of_mem_set hx with h | h
    · rw [Array.toList_replicate] at h
      rw [(List.mem_replicate.1 h).2]
      rfl
    · rw [h]; exact h1)
  rw [Array.toList_setIfInBounds] at h
  exact h

theorem own_sl {w : World} {base : Nat} {e : TypeId} {v : Value} {n : Nat} {xs : List Value} (h : Own w base e 1 v n xs) (hx : xs ≠ []) : ∃ T c, v = .slice (some ⟨T, 0, none⟩) n c ∧ base ≤ T ∧ T < w.heap.size := by
  obtain ⟨hl, ⟨_, h0⟩ | ⟨g, cap, cur, rfl, h1, h2, h3, h4⟩⟩ := h
  · subst h0
    exact absurd (List.eq_nil_of_length_eq_zero (by simpa using hl)) hx
  · exact ⟨g, cap, rfl, h1, (Array.getElem?_eq_some_iff.1 h2).1⟩
theorem gcell {a b : World} {T k j : Nat} (hg : a.grownBy b (some T)) (hk : k < a.heap.size) (hn : k ≠ T) : b.cell? ⟨k, j, none⟩ = a.cell? ⟨k, j, none⟩ :=
  World.cell?_of_block (hg.block k hk (by simpa using hn))
theorem gfrz {a b : World} {T k j : Nat} (hg : a.grownBy b (some T)) (hk : k < a.heap.size) (hn : k ≠ T) : b.frozen? ⟨k, j, none⟩ = a.frozen? ⟨k, j, none⟩ :=
  World.frozen?_of_block (hg.block k hk (by simpa using hn))
/-- a string of one byte. -/
theorem byte_str (w : World) (x : UInt8) (n : Int) (hn : n = (x.toNat : Int)) : (convert 28 9 (.slice (some ⟨w.heap.size, 0, none⟩) 1 1)).run Tryz.prog (w.alloc (.cells #[.int .u8 n] 5)) = .ok (S [x]) (w.alloc (.cells #[.int .u8 n] 5)) := by
  subst hn
  refine run_convert_bytes_back (l := [x]) _ _ _ _ _ _ Tryz.underlying28 Tryz.underlying5 Tryz.underlying9 (fun j hj => ?_)
  obtain rfl : j = 0 := by simp at hj; omega
  exact cells_new w [.int .u8 (x.toNat : Int)] 5 0 _ rfl
/-- the bytes of a string of two. -/
theorem two_bytes (w : World) (x y : UInt8) : ∃ gc w6, (convert 9 28 (S [x, y])).run Tryz.prog w = .ok (.slice (some ⟨w.heap.size, 0, none⟩) 2 gc) w6 ∧ Below w.heap.size w w6 ∧ w.heap.size < w6.heap.size ∧
    w6.cell? ⟨w.heap.size, 0, none⟩ = some (.int .u8 x.toNat) ∧ w6.cell? ⟨w.heap.size, 1, none⟩ = some (.int .u8 y.toNat) :=
  ⟨_, _, Lib.run_convert_string_bytes w 9 28 5 _ Tryz.underlying9 Tryz.underlying28 Tryz.underlying5, Lib.bytesWorld_below w _ _, by rw [Lib.bytesWorld_size]; omega, Lib.bytesWorld_cell w _ _ 0 (show 0 < 2 by omega), Lib.bytesWorld_cell w _ _ 1 (show 1 < 2 by omega)⟩
/-- what stands in the table at byte k: a row of two bytes, in a block that is neither B nor T. -/
def rowAt (n : Nat) (w : World) (B T k : Nat) (x y : Int) : Prop := ∃ a c, n ≤ a ∧ w.cell? ⟨B, k, none⟩ = some (.slice (some ⟨a, 0, none⟩) 2 c) ∧ a ≠ B ∧ a ≠ T ∧ a < w.heap.size ∧ w.cell? ⟨a, 0, none⟩ = some (.int .u8 x) ∧ w.cell? ⟨a, 1, none⟩ = some (.int .u8 y)
def tabHas (n : Nat) (w : World) (B T k : Nat) (x y : Int) (b : Bool) : Prop := (b = false → w.cell? ⟨B, k, none⟩ = some (.slice none 0 0)) ∧ (b = true → rowAt n w B T k x y)
/-- the table under way. -/
structure TbS (w wr : World) (B T : Nat) (xs : List (List UInt8)) (r10 r92 : Bool) : Prop where
  below : Below w.heap.size w wr
  lt : B < wr.heap.size
  ltT : T < wr.heap.size
  base : w.heap.size ≤ B
  baseT : w.heap.size ≤ T
  ne : T ≠ B
  frz : ∀ k, wr.frozen? ⟨B, k, none⟩ = false
  nils : ∀ k, k < 256 → k ≠ 10 → k ≠ 92 → wr.cell? ⟨B, k, none⟩ = some (.slice none 0 0)
  t10 : tabHas w.heap.size wr B T 10 92 110 r10
  t92 : tabHas w.heap.size wr B T 92 92 92 r92
  own : ∃ c, wr.cell? ⟨B, 256, none⟩ = some (.slice (some ⟨T, 0, none⟩) xs.length c) ∧ Own wr w.heap.size 9 1 (.slice (some ⟨T, 0, none⟩) xs.length c) xs.length (xs.flatMap strC)

def BuildPost (w : World) (e : Ending) (w' : World) : Prop := ∃ B T, e = .returned (.iface 177 (.pointer (some ⟨B, 0, none⟩))) ∧ TbS w w' B T [[92], [10]] true true
theorem tab_new {w w1 w2 : World} (how : Own w1 w.heap.size 9 1 (.slice (some ⟨w.heap.size, 0, none⟩) 0 2) 0 []) (hgr : w.grownBy w1 none)
    (hw2 : w2 = w1.alloc (Obj.cells ((Array.replicate 257 (Value.slice none 0 0)).setIfInBounds 256 (Value.slice (some ⟨w.heap.size, 0, none⟩) 0 2)) 176)) : TbS w w2 w1.heap.size w.heap.size [] false false := by
  have hlow : w.heap.size < w1.heap.size := by
    obtain ⟨_, h | ⟨g, cap, cur, h, h1, h2, _⟩⟩ := how
    · cases h.1
    · have h3 := (Array.getElem?_eq_some_iff.1 h2).1
      injection h with h _ _
      injection h with h
      injection h with h
      omega
  have cn : ∀ k, w2.cell? ⟨w1.heap.size, k, none⟩ = ((Array.replicate 257 (Value.slice none 0 0)).setIfInBounds 256 (Value.slice (some ⟨w.heap.size, 0, none⟩) 0 2))[k]? := fun k => by rw [hw2]; simp only [go_sem]
  have c0 : ∀ k, k < 256 → w2.cell? ⟨w1.heap.size, k, none⟩ = some (.slice none 0 0) := fun k hk => by
    rw [cn, Array.getElem?_setIfInBounds_ne (by omega), Array.getElem?_replicate, if_pos (by omega)]
  refine ⟨by rw [hw2]; exact up_alloc (up_grown (Below.refl _ _) hgr (fun k hk => by cases hk)) _, by rw [hw2]; simp, by rw [hw2]; simp; omega, by omega, Nat.le_refl _, by omega, fun k => by rw [hw2]; simp [go_sem], fun k h1 _ _ => c0 k h1, ⟨fun _ => c0 10 (by decide), fun e => by cases e⟩, ⟨fun _ => c0 92 (by decide), fun e => by cases e⟩, ⟨2, ?_, ?_⟩⟩
  · rw [cn, Array.getElem?_setIfInBounds_self_of_lt (by simp)]
    rfl
  · rw [hw2]
    exact how.alloc _
theorem tab_step {w wr w5 w7 : World} {B T T5 tc5 k : Nat} {x y : UInt8} {xs ys : List (List UInt8)} {r10 r92 : Bool} (h : TbS w wr B T xs r10 r92) (hk : (k = 10 ∧ x = 92 ∧ y = 110) ∨ (k = 92 ∧ x = 92 ∧ y = 92))
    (cB : ∀ i j, i < wr.heap.size → i ≠ T → w5.cell? ⟨i, j, none⟩ = wr.cell? ⟨i, j, none⟩) (hown : Own w5 w.heap.size 9 1 (.slice (some ⟨T5, 0, none⟩) ys.length tc5) ys.length (ys.flatMap strC)) (hb5 : Below w.heap.size w w5) (hTT : T5 = T ∨ wr.heap.size ≤ T5)
    (hT5 : w.heap.size ≤ T5) (hT5z : T5 < w5.heap.size) (hz5 : B < w5.heap.size) (hs5 : wr.heap.size ≤ w5.heap.size) (fB : ∀ j, w5.frozen? ⟨B, j, none⟩ = false) (hw7 : w7 = w5.setCell ⟨B, 256, none⟩ (.slice (some ⟨T5, 0, none⟩) ys.length tc5)) :
    B < w7.heap.size ∧ (∀ j, w7.frozen? ⟨B, j, none⟩ = false) ∧ w7.cell? ⟨B, k, none⟩ = wr.cell? ⟨B, k, none⟩ ∧ ∀ w6 gc, Below w7.heap.size w7 w6 → w7.heap.size < w6.heap.size → w6.cell? ⟨w7.heap.size, 0, none⟩ = some (.int .u8 x.toNat) → w6.cell? ⟨w7.heap.size, 1, none⟩ = some (.int .u8 y.toNat) →
      TbS w (w6.setCell ⟨B, k, none⟩ (.slice (some ⟨w7.heap.size, 0, none⟩) 2 gc)) B T5 ys (r10 || k == 10) (r92 || k == 92) := by
  have hk2 : k ≠ 256 := by rcases hk with ⟨rfl, _⟩ | ⟨rfl, _⟩ <;> decide
  have nTB : T5 ≠ B := by rcases hTT with e | e; rw [e]; exact h.ne; have := h.lt; omega
  have s7 : w7.heap.size = w5.heap.size := by rw [hw7]; simp
  have c5 : ∀ j, w5.cell? ⟨B, j, none⟩ = wr.cell? ⟨B, j, none⟩ := fun j => cB B j h.lt h.ne.symm
  have c7 : ∀ j, j ≠ 256 → w7.cell? ⟨B, j, none⟩ = wr.cell? ⟨B, j, none⟩ := fun j hj => by
    rw [hw7, World.cell?_setCell_other _ ⟨B, 256, none⟩ ⟨B, j, none⟩ _ (by intro e; injection e with _ e; exact hj e.symm), c5]
  obtain ⟨tc, c256, _⟩ := h.own
  have c7t : w7.cell? ⟨B, 256, none⟩ = some (.slice (some ⟨T5, 0, none⟩) ys.length tc5) := by
    rw [hw7]
    exact World.cell?_setCell_same _ _ _ ((c5 256).trans c256)
  have o7 : ∀ i j, i ≠ B → w7.cell? ⟨i, j, none⟩ = w5.cell? ⟨i, j, none⟩ := fun i j hi => by
    rw [hw7, World.cell?_setCell_other _ ⟨B, 256, none⟩ ⟨i, j, none⟩ _ (by intro e; injection e with e _; exact hi e.symm)]
  have f7 : ∀ j, w7.frozen? ⟨B, j, none⟩ = false := fun j => by rw [hw7]; simp [fB j]
  have b7 : Below w.heap.size w w7 := by rw [hw7]; exact up_set hb5 _ _ h.base
  have own7 : Own w7 w.heap.size 9 1 (.slice (some ⟨T5, 0, none⟩) ys.length tc5) ys.length (ys.flatMap strC) := by
    rw [hw7]
    exact own_setn hown _ _ (fun g hg => by injection hg with hg; rw [← hg]; exact nTB)
  have hz7 : B < w7.heap.size := by omega
  refine ⟨hz7, f7, c7 k hk2, fun w6 gc hb6 hz6 n0 n1 => ?_⟩
  have c6 : ∀ i j, i < w7.heap.size → w6.cell? ⟨i, j, none⟩ = w7.cell? ⟨i, j, none⟩ := fun i j hi => hb6.cell (p := ⟨i, j, none⟩) hi
  obtain ⟨w8, hw8⟩ : ∃ z, z = w6.setCell ⟨B, k, none⟩ (.slice (some ⟨w7.heap.size, 0, none⟩) 2 gc) := ⟨_, rfl⟩
  have s8 : w8.heap.size = w6.heap.size := by rw [hw8]; simp
  have c8 : ∀ j, j ≠ k → w8.cell? ⟨B, j, none⟩ = w7.cell? ⟨B, j, none⟩ := fun j hj => by
    rw [hw8, World.cell?_setCell_other _ ⟨B, k, none⟩ ⟨B, j, none⟩ _ (by intro e; injection e with _ e; exact hj e.symm), c6 B j hz7]
  have o8 : ∀ i j, i ≠ B → w8.cell? ⟨i, j, none⟩ = w6.cell? ⟨i, j, none⟩ := fun i j hi => by
    rw [hw8, World.cell?_setCell_other _ ⟨B, k, none⟩ ⟨i, j, none⟩ _ (by intro e; injection e with e _; exact hi e.symm)]
  have c8k : w8.cell? ⟨B, k, none⟩ = some (.slice (some ⟨w7.heap.size, 0, none⟩) 2 gc) := by
    rw [hw8]
    have hx : ∃ v, wr.cell? ⟨B, k, none⟩ = some v := by
      rcases hk with ⟨rfl, _⟩ | ⟨rfl, _⟩
      · cases r10 with
        | false => exact ⟨_, h.t10.1 rfl⟩
        | true => obtain ⟨a, c, _, hc, _⟩ := h.t10.2 rfl; exact ⟨_, hc⟩
      · cases r92 with
        | false => exact ⟨_, h.t92.1 rfl⟩
        | true => obtain ⟨a, c, _, hc, _⟩ := h.t92.2 rfl; exact ⟨_, hc⟩
    obtain ⟨v, hv⟩ := hx
    exact World.cell?_setCell_same _ _ _ ((c6 B k hz7).trans ((c7 k hk2).trans hv))
  have newRow : rowAt w.heap.size w8 B T5 k x.toNat y.toNat := ⟨w7.heap.size, gc, b7.size, c8k, by omega, by omega, by omega, (o8 _ _ (by omega)).trans n0, (o8 _ _ (by omega)).trans n1⟩
  have oldRow : ∀ i u v, i ≠ k → i ≠ 256 → rowAt w.heap.size wr B T i u v → rowAt w.heap.size w8 B T5 i u v := fun i u v hi hi2 ⟨a, c, r0, r1, r2, r3, r4, r5, r6⟩ => by
    have e : ∀ j, w8.cell? ⟨a, j, none⟩ = wr.cell? ⟨a, j, none⟩ := fun j => by rw [o8 a j r2, c6 a j (by omega), o7 a j r2, cB a j r4 r3]
    exact ⟨a, c, r0, by rw [c8 i hi, c7 i hi2]; exact r1, r2, by rcases hTT with h1 | h1; rw [h1]; exact r3; omega, by omega, by rw [e]; exact r5, by rw [e]; exact r6⟩
  rw [← hw8]
  refine ⟨by rw [hw8]; exact up_set (b7.trans (hb6.mono b7.size)) _ _ h.base, by omega, by omega, h.base, hT5, nTB, fun j => by rw [hw8]; simp [hb6.frozen (p := ⟨B, j, none⟩) hz7, f7 j], fun j h1 h2 h3 => ?_, ?_, ?_, ⟨tc5, by rw [c8 256 hk2.symm]; exact c7t, by rw [hw8]; exact own_setn (own_up own7 hb6) _ _ (fun g hg => by injection hg with hg; rw [← hg]; exact nTB)⟩⟩
  · rw [c8 j (by rcases hk with ⟨rfl, _⟩ | ⟨rfl, _⟩ <;> assumption), c7 j (by omega)]
    exact h.nils j h1 h2 h3
  · rcases hk with ⟨rfl, rfl, rfl⟩ | ⟨rfl, rfl, rfl⟩
    · exact ⟨fun e => by simp at e, fun _ => newRow⟩
    · refine ⟨fun e => ?_, fun e => ?_⟩
      · rw [c8 10 (by decide), c7 10 (by decide)]
        exact h.t10.1 (by simpa using e)
      · exact oldRow 10 _ _ (by decide) (by decide) (h.t10.2 (by simpa using e))
  · rcases hk with ⟨rfl, rfl, rfl⟩ | ⟨rfl, rfl, rfl⟩
    · refine ⟨fun e => ?_, fun e => ?_⟩
      · rw [c8 92 (by decide), c7 92 (by decide)]
        exact h.t92.1 (by simpa using e)
      · exact oldRow 92 _ _ (by decide) (by decide) (h.t92.2 (by simpa using e))
    · exact ⟨fun e => by simp at e, fun _ => newRow⟩

set_option maxRecDepth 100000 in
set_option maxHeartbeats 2000000 in
theorem build_any (R q o c : Nat) (w : World) (h4 : w.cell? ⟨R, 4, none⟩ = some (.slice (some ⟨q, o, none⟩) 4 c)) (hO : OldAt w q o) :
    Calls Tryz.prog 104 #[.pointer (some ⟨R, 0, none⟩)] w (BuildPost w) := by
  obtain ⟨hq, o0, o1, o2, o3⟩ := hO
  have he : ∀ w : World, (binOp .eql 28 (.slice none 0 0) (.slice none 0 0)).run Tryz.prog w = .ok (.bool true) w := fun _ => rfl
  obtain ⟨i0, hi, hz0, hz1, hz2⟩ := info_parts str_info
  go_enter Tryz.func104, Tryz.ntmps104
  go_wp2_with fail
  go_loop [4, 5] (fun b i => (i = .int .i64 0 ∧ b = .bool true) ∨ (i = .int .i64 2 ∧ b = .bool false) ∨ (i = .int .i64 4 ∧ b = .bool false)) (fun _ i => (4 - intOf i).toNat)
  case atStart => exact .inl ⟨rfl, rfl⟩
  case round =>
    rcases hrel with ⟨rfl, rfl⟩ | ⟨rfl, rfl⟩ | ⟨rfl, rfl⟩
    · go_wp2_with fail
      go_round
      case rel => exact .inr (.inl ⟨rfl, rfl⟩)
      case measure => simp [intOf]
    · go_wp2_with fail
      go_round
      case rel => exact .inr (.inr ⟨rfl, rfl⟩)
      case measure => simp [intOf]
    · go_upto_region 27 with (at_make; refine wpList_make_own _ rfl _ _ 34 rfl w.heap.size 9 i0 _ 1 Tryz.underlying34 hi hz0 hz1 _ _ _ 2 rfl rfl rfl (by rw [hz2]; omega) (by unfold maxLen; omega) (Nat.le_refl _) ?_; intro w1 how hgr; have hst := store_tab w1 (.slice (some ⟨w.heap.size, 0, none⟩) 0 2) rfl)
      obtain ⟨w2, hw2⟩ : ∃ z, z = w1.alloc (Obj.cells ((Array.replicate 257 (Value.slice none 0 0)).setIfInBounds 256 (Value.slice (some ⟨w.heap.size, 0, none⟩) 0 2)) 176) := ⟨_, rfl⟩
      have HS : TbS w w2 w1.heap.size w.heap.size [] false false := tab_new how hgr hw2
      rw [← hw2]
      obtain ⟨B, hB⟩ : ∃ B, B = w1.heap.size := ⟨_, rfl⟩
      rw [← hB] at HS ⊢
      clear hw2 hB how hgr hst
      obtain ⟨T0, hT0⟩ : ∃ T, T = w.heap.size := ⟨_, rfl⟩
      rw [← hT0] at HS
      have HT0 := Lib.hid hT0
      clear hT0
      go_wp2_with fail
      go_loopw [12, 13, 14] (fun i x y wr => ∃ T, (i = .int .i64 2 ∧ TbS w wr B T [] false false) ∨ (i = .int .i64 0 ∧ TbS w wr B T [[92]] false true) ∨ (i = .int .i64 (-2) ∧ TbS w wr B T [[92], [10]] true true)) (fun i _ _ _ => (intOf i + 2).toNat)
      case atStart => exact ⟨T0, .inl ⟨rfl, HS⟩⟩
      case round =>
        obtain ⟨T, ⟨rfl, HS⟩ | ⟨rfl, HS⟩ | ⟨rfl, HS⟩⟩ := hrel
        · have q2 := (HS.below.cell (p := ⟨q, o + 2, none⟩) hq).trans o2
          have q3 := (HS.below.cell (p := ⟨q, o + 3, none⟩) hq).trans o3
          have hz := HS.lt
          have hTz := HS.ltT
          have hfr := HS.frz
          have cN := HS.t92.1 rfl
          obtain ⟨tc, c256, hown⟩ := HS.own
          simp only [List.length_nil] at hown c256
          have HW := Lib.hid HS
          have HOwn := Lib.hid hown
          clear HS hown
          have hbs := byte_str wr 92 92 rfl
          go_upto_region 33 with (fail)
          go_upto_region 34 with (at_builtin; go_loud (
             refine wpList_append_own_at _ rfl _ _ 34 rfl w.heap.size 9 i0 _ 1 16 Tryz.underlying34 hi hz0 hz1 hz2 rfl (by decide) _ _ _ rfl ((HOwn.out.alloc _).alloc _) ⟨wr.heap.size + 1, 0, none⟩ 1 1 [S [92]] rfl rfl (by have := cells_new (wr.alloc (.cells #[.int .u8 92] 5)) [S [92]] 9; simpa using this) (by intro u hu; simp at hu; subst hu; rfl) (by unfold maxLen; omega) (by omega) (by have := HW.out.base; simp; omega) ?_
             intro v5 w5 how5 hgr5 _ hob
             simp only [List.flatMap_nil, List.nil_append, Nat.zero_add] at how5
             obtain ⟨T5, tc5, rfl, hT5, hT5z⟩ := own_sl how5 (by simp)
             have gr5 : ((wr.alloc (.cells #[.int .u8 92] 5)).alloc (.cells #[S [92]] 9)).grownBy w5 (some T) := hgr5
             have hB5 : Below w.heap.size w w5 := up_grown (up_alloc (up_alloc HW.out.below _) _) gr5 (fun k hk => by have := HW.out.baseT; injection hk with hk; omega)
             have sz5 : wr.heap.size + 2 ≤ w5.heap.size := by have := gr5.size; simp at this; omega
             have hTT : T5 = T ∨ wr.heap.size ≤ T5 := by
               rcases hob with h | h
               · exact .inl (Option.some.inj h)
               · have h2 := Option.some.inj h
                 simp at h2
                 exact .inr (by omega)
             have cB : ∀ k j, k < wr.heap.size → k ≠ T → w5.cell? ⟨k, j, none⟩ = wr.cell? ⟨k, j, none⟩ := fun k j hk hn => by
               rw [gcell gr5 (by simp; omega) hn, World.cell?_alloc_past _ _ _ (by simp; omega), World.cell?_alloc_past _ _ _ hk]
             have fB : ∀ j, w5.frozen? ⟨B, j, none⟩ = false := fun j => by
               rw [gfrz gr5 (by simp; omega) HW.out.ne.symm, World.frozen?_alloc_past _ _ _ (by simp; omega), World.frozen?_alloc_past _ _ _ hz, hfr j]
             have b256 := (cB B 256 hz HW.out.ne.symm).trans c256
             have CB := Lib.hid cB
             have HO5 := Lib.hid how5
             have GR5 := Lib.hid hB5
             have hz5 : B < w5.heap.size := by omega
             clear cB how5 gr5 hgr5 hob hB5 c256 hfr hbs HOwn; replace cN := Lib.hid cN))
          obtain ⟨w7, hw7⟩ : ∃ z, z = w5.setCell ⟨B, 256, none⟩ (.slice (some ⟨T5, 0, none⟩) 1 tc5) := ⟨_, rfl⟩
          obtain ⟨z7, f7, b7, G⟩ := tab_step (k := 92) (x := 92) (y := 92) (ys := [[92]]) HW.out (Or.inr ⟨rfl, rfl, rfl⟩) CB.out HO5.out GR5.out hTT hT5 hT5z hz5 (by omega) fB hw7
          rw [← hw7]
          replace b7 := b7.trans cN.out
          clear hw7 b256 fB
          obtain ⟨gc, w6, cv, hb6, hz6, n0, n1⟩ := two_bytes w7 92 92
          have b6 := (hb6.cell (p := ⟨B, 92, none⟩) z7).trans b7
          have f6 : w6.frozen? ⟨B, 92, none⟩ = false := (hb6.frozen (p := ⟨B, 92, none⟩) z7).trans (f7 92)
          have GG := Lib.hid (G w6 gc hb6 hz6 n0 n1)
          clear G b7 f7 hb6 hz6 n0 n1
          go_wp2_with fail
          go_roundw
          case rel => exact ⟨T5, .inr (.inl ⟨by go_num, GG.out⟩)⟩
          case measure => simp [intOf]
        · have q0 := (HS.below.cell (p := ⟨q, o, none⟩) hq).trans o0
          have q1 := (HS.below.cell (p := ⟨q, o + 1, none⟩) hq).trans o1
          have hz := HS.lt
          have hTz := HS.ltT
          have hfr := HS.frz
          have cN := HS.t10.1 rfl
          obtain ⟨tc, c256, hown⟩ := HS.own
          simp only [List.length_cons, List.length_nil, Nat.zero_add] at hown c256
          have HW := Lib.hid HS
          have HOwn := Lib.hid hown
          clear HS hown
          have hbs := byte_str wr 10 10 rfl
          go_upto_region 33 with (fail)
          go_upto_region 34 with (at_builtin; go_loud (
             refine wpList_append_own_at _ rfl _ _ 34 rfl w.heap.size 9 i0 _ 1 16 Tryz.underlying34 hi hz0 hz1 hz2 rfl (by decide) _ _ _ rfl ((HOwn.out.alloc _).alloc _) ⟨wr.heap.size + 1, 0, none⟩ 1 1 [S [10]] rfl rfl (by have := cells_new (wr.alloc (.cells #[.int .u8 10] 5)) [S [10]] 9; simpa using this) (by intro u hu; simp at hu; subst hu; rfl) (by unfold maxLen; omega) (by omega) (by have := HW.out.base; simp; omega) ?_
             intro v5 w5 how5 hgr5 _ hob
             simp only [List.flatMap_cons, List.flatMap_nil, List.append_nil, Nat.reduceAdd] at how5
             obtain ⟨T5, tc5, rfl, hT5, hT5z⟩ := own_sl how5 (by simp)
             have gr5 : ((wr.alloc (.cells #[.int .u8 10] 5)).alloc (.cells #[S [10]] 9)).grownBy w5 (some T) := hgr5
             have hB5 : Below w.heap.size w w5 := up_grown (up_alloc (up_alloc HW.out.below _) _) gr5 (fun k hk => by have := HW.out.baseT; injection hk with hk; omega)
             have sz5 : wr.heap.size + 2 ≤ w5.heap.size := by have := gr5.size; simp at this; omega
             have hTT : T5 = T ∨ wr.heap.size ≤ T5 := by
               rcases hob with h | h
               · exact .inl (Option.some.inj h)
               · have h2 := Option.some.inj h
                 simp at h2
                 exact .inr (by omega)
             have cB : ∀ k j, k < wr.heap.size → k ≠ T → w5.cell? ⟨k, j, none⟩ = wr.cell? ⟨k, j, none⟩ := fun k j hk hn => by
               rw [gcell gr5 (by simp; omega) hn, World.cell?_alloc_past _ _ _ (by simp; omega), World.cell?_alloc_past _ _ _ hk]
             have fB : ∀ j, w5.frozen? ⟨B, j, none⟩ = false := fun j => by
               rw [gfrz gr5 (by simp; omega) HW.out.ne.symm, World.frozen?_alloc_past _ _ _ (by simp; omega), World.frozen?_alloc_past _ _ _ hz, hfr j]
             have b256 := (cB B 256 hz HW.out.ne.symm).trans c256
             have CB := Lib.hid cB
             have HO5 := Lib.hid how5
             have GR5 := Lib.hid hB5
             have hz5 : B < w5.heap.size := by omega
             clear cB how5 gr5 hgr5 hob hB5 c256 hfr hbs HOwn; replace cN := Lib.hid cN))
          obtain ⟨w7, hw7⟩ : ∃ z, z = w5.setCell ⟨B, 256, none⟩ (.slice (some ⟨T5, 0, none⟩) 2 tc5) := ⟨_, rfl⟩
          obtain ⟨z7, f7, b7, G⟩ := tab_step (k := 10) (x := 92) (y := 110) (ys := [[92], [10]]) HW.out (Or.inl ⟨rfl, rfl, rfl⟩) CB.out HO5.out GR5.out hTT hT5 hT5z hz5 (by omega) fB hw7
          rw [← hw7]
          replace b7 := b7.trans cN.out
          clear hw7 b256 fB
          obtain ⟨gc, w6, cv, hb6, hz6, n0, n1⟩ := two_bytes w7 92 110
          have b6 := (hb6.cell (p := ⟨B, 10, none⟩) z7).trans b7
          have f6 : w6.frozen? ⟨B, 10, none⟩ = false := (hb6.frozen (p := ⟨B, 10, none⟩) z7).trans (f7 10)
          have GG := Lib.hid (G w6 gc hb6 hz6 n0 n1)
          clear G b7 f7 hb6 hz6 n0 n1
          go_wp2_with fail
          go_roundw
          case rel => exact ⟨T5, .inr (.inr ⟨by go_num, GG.out⟩)⟩
          case measure => simp [intOf]
        · have HF := Lib.hid HS
          have i1 : ¬ (0 : Int) ≤ -2 := by omega
          clear HS
          go_wp2_with fail
          go_ret
          exact ⟨B, T, rfl, HF.out⟩

end Go.Proofs.YtdngdlcibaiekaaGreatDoor
