/- What is proved here: What is proved here: the contract of (*byteStringReplacer).Replace at the table: the text as it stands in a record. What is proved here: the contract of (*strings.Replacer).Replace behind NewReplacer, and the sum of bytes of the program. What is proved here: the contract of the program's RecordText. No condition. -/
import Derived.Test.YtbjlkdenkmbepaaGreatDoorRp3
import Derived.Test.YtbjlkdenkmbepaaGreatDoorRc8
import Derived.Test.YtbjlkdenkmbepaaGreatDoorShelf
import Derived.Laws.CopyOwn
import Derived.Laws.Cover3
import Derived.Deep.RegionLaw
import Derived.Deep.QuietTactic
import Derived.BigQuiet
import Derived.IntWalk
import Derived.Test.YtbjlkdenkmbepaaGreatDoorLaidW
import Derived.Test.YtbjlkdenkmbepaaGreatDoorBase
namespace Go.Proofs.YtbjlkdenkmbepaaGreatDoor
open Go.RowKit
set_option linter.unusedVariables false

theorem Tbl.up {w w' : World} {B : Nat} (h : Tbl w B) (hb : Below w.heap.size w w') : Tbl w' B := by
  have hz := h.lt
  have hs := hb.size
  refine ⟨by omega, fun k h1 h2 h3 => (hb.cell (p := ⟨B, k, none⟩) hz).trans (h.nils k h1 h2 h3), ?_, ?_, ?_⟩
  · obtain ⟨a, c, h0, h1, h2, h3⟩ := h.r10
    exact ⟨a, c, by omega, (hb.cell (p := ⟨B, 10, none⟩) hz).trans h1, (hb.cell (p := ⟨a, 0, none⟩) h0).trans h2, (hb.cell (p := ⟨a, 1, none⟩) h0).trans h3⟩
  · obtain ⟨a, c, h0, h1, h2, h3⟩ := h.r92
    exact ⟨a, c, by omega, (hb.cell (p := ⟨B, 92, none⟩) hz).trans h1, (hb.cell (p := ⟨a, 0, none⟩) h0).trans h2, (hb.cell (p := ⟨a, 1, none⟩) h0).trans h3⟩
  · obtain ⟨a, c, h0, h1, h2, h3⟩ := h.own
    exact ⟨a, c, by omega, (hb.cell (p := ⟨B, 256, none⟩) hz).trans h1, (hb.cell (p := ⟨a, 0, none⟩) h0).trans h2, (hb.cell (p := ⟨a, 1, none⟩) h0).trans h3⟩
/-- how many bytes are written as two. -/
def twos (l : List UInt8) : Nat := l.count 92 + l.count 10
theorem esc_twos (l : List UInt8) : (esc l).length = l.length + twos l := by
  induction l with
  | nil => rfl
  | cons c l ih =>
    have e : esc (c :: l) = esc1 c ++ esc l := by simp [esc]
    unfold twos at ih ⊢
    rw [e, List.length_append, ih, List.count_cons, List.count_cons, List.length_cons]
    unfold esc1
    by_cases h1 : c = 10
    · subst h1; simp; omega
    · by_cases h2 : c = 92
      · subst h2; simp; omega
      · simp [h1, h2]; omega
theorem esc_same {l : List UInt8} (h : twos l = 0) : esc l = l := by
  induction l with
  | nil => rfl
  | cons c l ih =>
    have e : esc (c :: l) = esc1 c ++ esc l := by simp [esc]
    unfold twos at h ih
    rw [List.count_cons, List.count_cons] at h
    have h1 : c ≠ 10 := by rintro rfl; simp at h
    have h2 : c ≠ 92 := by rintro rfl; simp at h
    rw [e, ih (by omega)]
    simp [esc1, h1, h2]
theorem twos_snoc (l : List UInt8) (c : UInt8) : twos (l ++ [c]) = twos l + (if c = 10 ∨ c = 92 then 1 else 0) := by
  unfold twos
  rw [List.count_append, List.count_append, List.count_singleton, List.count_singleton]
  by_cases h1 : c = 10
  · subst h1; simp; omega
  · by_cases h2 : c = 92
    · subst h2; simp; omega
    · simp [h1, h2]
/-- a row of n bytes that begins with l. -/
def bufC (l : List UInt8) (n : Nat) : List Value := l.map (fun c => Value.int .u8 (c.toNat : Int)) ++ List.replicate (n - l.length) (.int .u8 0)
theorem bufC_len {l : List UInt8} {n : Nat} (h : l.length ≤ n) : (bufC l n).length = n := by unfold bufC; simp; omega
theorem bufC_one {l : List UInt8} {n : Nat} (c : UInt8) (h : l.length + 1 ≤ n) : (bufC l n).set l.length (.int .u8 (c.toNat : Int)) = bufC (l ++ [c]) n := by
  unfold bufC
  obtain ⟨d, hd⟩ : ∃ d, n - l.length = d + 1 := ⟨n - l.length - 1, by omega⟩
  rw [List.set_append_right _ _ (by simp), List.length_map, Nat.sub_self, hd, List.replicate_succ, List.set_cons_zero, List.map_append, List.length_append, List.length_singleton, show n - (l.length + 1) = d by omega]
  simp
theorem bufC_two {l : List UInt8} {n : Nat} (x y : UInt8) (h : l.length + 2 ≤ n) : splice (bufC l n) l.length [.int .u8 (x.toNat : Int), .int .u8 (y.toNat : Int)] = bufC (l ++ [x, y]) n := by
  unfold bufC splice
  have e1 : List.take l.length (l.map (fun c => Value.int .u8 (c.toNat : Int)) ++ List.replicate (n - l.length) (.int .u8 0)) = l.map (fun c => Value.int .u8 (c.toNat : Int)) := List.take_left' (by simp)
  rw [e1, List.drop_append, List.drop_of_length_le (by simp), List.drop_replicate, List.length_map, List.nil_append, List.map_append, List.length_append, List.append_assoc]
  simp only [List.length_cons, List.length_nil, List.map_cons, List.map_nil, Nat.zero_add]
  rw [show n - l.length - (l.length + (1 + 1) - l.length) = n - (l.length + (1 + 1)) by omega]
theorem bufC_all (l : List UInt8) : bufC l l.length = l.map (fun c => Value.int .u8 (c.toNat : Int)) := by unfold bufC; simp

theorem two_pos (a b : Nat) : decide (0 < a + b) = (decide (0 < a) || decide (0 < b)) := by
  rw [Bool.eq_iff_iff]
  simp
  omega

theorem made_buf (L : Nat) : (madeCells (Value.int .u8 0).cells (L * 1)).toList = bufC [] L := by
  unfold bufC madeCells
  rw [Array.toList_map, Array.toList_range, Nat.mul_one]
  simp only [List.map_nil, List.nil_append, List.length_nil, Nat.sub_zero]
  apply List.ext_getElem (by simp)
  intro k h1 h2
  simp [Value.cells, Nat.mod_one]
theorem buf_new {w : World} {g L base : Nat} {e : TypeId} {xs : List Value} (how : Own w base e 1 (.slice (some ⟨g, 0, none⟩) L L) L xs) : w.heap[g]? = some (.cells xs.toArray e (0, 0)) := by
  obtain ⟨hl, h | ⟨g', cap, cur, hv, hb, hh, hnc, hcm, hcs, htk⟩⟩ := how
  · cases h.1
  · injection hv with e1 _ e3
    injection e1 with e1
    injection e1 with e1
    subst e1
    subst e3
    rw [hh]
    congr 2
    rw [← htk, List.take_of_length_le (by simp [hcs])]
theorem esc_take (p : List UInt8) (k : Nat) : (esc (p.take k)).length ≤ (esc p).length := by
  have : esc p = esc (p.take k) ++ esc (p.drop k) := by
    unfold esc
    rw [← List.flatMap_append, List.take_append_drop]
  rw [this, List.length_append]
  omega
theorem buf_at {l : List UInt8} {L : Nat} (h : l.length < L) : (bufC l L)[l.length]? = some (.int .u8 0) := by
  unfold bufC
  rw [List.getElem?_append_right (by simp), List.length_map, Nat.sub_self, List.getElem?_replicate, if_pos (by omega)]
theorem buf_cell {w : World} {g L j : Nat} {xs : List Value} (h : w.heap[g]? = some (.cells xs.toArray 5 (0, 0))) : w.cell? ⟨g, j, none⟩ = xs[j]? := by simp [World.cell?, h]
theorem buf_frz {w : World} {g L j : Nat} {xs : List Value} (h : w.heap[g]? = some (.cells xs.toArray 5 (0, 0))) : w.frozen? ⟨g, j, none⟩ = false := by simp [World.frozen?, h]
theorem two_src {w : World} {a : Nat} {x y : Value} (h0 : w.cell? ⟨a, 0, none⟩ = some x) (h1 : w.cell? ⟨a, 1, none⟩ = some y) : ∀ j v, [x, y][j]? = some v → w.cell? ((⟨a, 0, none⟩ : Addr).add j) = some v := by
  have hadd : ∀ j, (⟨a, 0, none⟩ : Addr).add j = ⟨a, j, none⟩ := fun j => by unfold Addr.add; split <;> simp_all
  intro j v hj
  rw [hadd]
  match j, hj with
  | 0, hj => simp at hj; rw [h0, hj]
  | 1, hj => simp at hj; rw [h1, hj]
  | k + 2, hj => simp at hj
theorem byte_info5 : (Tryz.prog.info? 5).map (fun i => (i.zero, i.size, i.bytes)) = some (some (.int .u8 0), 1, 1) := by kernel_rfl
set_option maxRecDepth 100000 in
set_option maxHeartbeats 2000000 in
theorem bsReplace_any (B : Nat) (p : List UInt8) (w : World) (hT : Tbl w B) (hp : p.length ≤ 120) :
    Calls Tryz.prog 289 #[.pointer (some ⟨B, 0, none⟩), S p] w fun e w' => e = .returned (S (esc p)) ∧ Below w.heap.size w w' := by
  have hl := esc_twos p
  have hl2 := esc_len p
  have hm := List.count_le_length (a := (92 : UInt8)) (l := p)
  have hn := List.count_le_length (a := (10 : UInt8)) (l := p)
  have C92 := Lib.hid (fun w => (show Calls Tryz.prog 85 #[S p, S [92]] w fun e w' => e = .returned (.int .i64 (p.count 92 : Nat)) ∧ w' = w from Tryz.strings_Count_one ⟨p.toArray⟩ 92 w))
  have C10 := Lib.hid (fun w => (show Calls Tryz.prog 85 #[S p, S [10]] w fun e w' => e = .returned (.int .i64 (p.count 10 : Nat)) ∧ w' = w from Tryz.strings_Count_one ⟨p.toArray⟩ 10 w))
  unfold twos at hl
  obtain ⟨L, hL⟩ : ∃ L, L = (esc p).length := ⟨_, rfl⟩
  obtain ⟨m, hm0⟩ : ∃ m, m = p.count 92 := ⟨_, rfl⟩
  obtain ⟨n, hn0⟩ : ∃ n, n = p.count 10 := ⟨_, rfl⟩
  rw [← hm0] at hl hm C92
  rw [← hn0] at hl hn C10
  rw [← hL] at hl hl2
  have H0 := Lib.hid (fun (h : m = 0 ∧ n = 0) => esc_same (l := p) (by unfold twos; omega))
  have HM := Lib.hid (show m + n = twos p by unfold twos; omega)
  clear hm0 hn0
  obtain ⟨bm, hbm⟩ : ∃ b : Bool, b = decide (0 < m) := ⟨_, rfl⟩
  obtain ⟨ch, hch⟩ : ∃ b : Bool, b = decide (0 < m + n) := ⟨_, rfl⟩
  have hLn : L ≤ 240 := by omega
  have hLp : p.length ≤ L := by omega
  have HL := Lib.hid hL
  have HC := Lib.hid hch
  have HB := Lib.hid hbm
  have HE := Lib.hid hl
  clear hL hch hl hl2 hbm
  obtain ⟨T, tc, hTz, t256, t0, t1⟩ := hT.own
  have hz := hT.lt
  have HT := Lib.hid hT
  clear hT
  obtain ⟨bb, e16⟩ : ∃ bb : Bool, decide ((16 : Int) ≤ (p.length : Int)) = bb := ⟨_, rfl⟩
  go_enter Tryz.func289, Tryz.ntmps289
  go_upto_if 26 with (fail)
  go_cut [5, 6] from 27 to 80 (fun n a wx => n = .int .i64 (L : Int) ∧ a = .bool ch ∧ Hid (Below w.heap.size w wx))
  case first =>
    rcases bb with _ | _
    rotate_left
    · clear e16
      go_wp2_with fail
      go_loopw [5, 6, 32] (fun n a i wr => Below w.heap.size w wr ∧ ((i = .int .i64 0 ∧ n = .int .i64 (p.length : Int) ∧ a = .bool false) ∨ (i = .int .i64 1 ∧ n = .int .i64 ((p.length + m : Nat) : Int) ∧ a = .bool bm) ∨ (i = .int .i64 2 ∧ n = .int .i64 (L : Int) ∧ a = .bool ch))) (fun _ _ i _ => (2 - intOf i).toNat)
      case atStart => exact ⟨Below.refl _ _, .inl ⟨rfl, rfl, rfl⟩⟩
      case round =>
        obtain ⟨hW, ⟨rfl, rfl, rfl⟩ | ⟨rfl, rfl, rfl⟩ | ⟨rfl, rfl, rfl⟩⟩ := hrel
        · have tT := (hW.cell (p := ⟨T, 0, none⟩) hTz).trans t0
          have tB := (hW.cell (p := ⟨B, 256, none⟩) hz).trans t256
          obtain ⟨aa, ac, haa, ra, -, -⟩ := HT.out.r92
          have ra2 := (hW.cell (p := ⟨B, 92, none⟩) hz).trans ra
          have hsz := hW.size
          go_wp2_with fail
          refine (C92.out _).mono ?_
          rintro e w1 ⟨rfl, rfl⟩
          have hWh := Lib.hid hW
          clear hW
          by_cases h0 : 0 < m
          · have e1 : ((m : Int) != 0) = true := by rw [bne_iff_ne]; omega
            have e2 : IntKind.i64.wrap ((m : Int) * 1) = (m : Int) := by rw [Int.mul_one, IntWalk.i64_in _ (by omega)]
            have e3 : IntKind.i64.wrap ((p.length : Int) + (m : Int)) = (p.length : Int) + (m : Int) := IntWalk.i64_in _ (by omega)
            go_wp2_with fail
            go_quiet (fail)
            go_wp2_with fail
            go_roundw
            case rel => exact ⟨up_drewN hWh.out _, .inr (.inl ⟨by go_num, by go_num, by rw [HB.out, decide_eq_true h0]⟩)⟩
            case measure => simp [intOf]
          · have e0 : ((m : Int) != 0) = false := by rw [bne_eq_false_iff_eq]; omega
            have hq : m = 0 := by omega
            have HQ := Lib.hid hq
            clear hq
            go_wp2_with fail
            go_roundw
            case rel => exact ⟨hWh.out, .inr (.inl ⟨by go_num, by go_num, by rw [HB.out, decide_eq_false h0]⟩)⟩
            case measure => simp [intOf]
        · have tT := (hW.cell (p := ⟨T, 1, none⟩) hTz).trans t1
          have tB := (hW.cell (p := ⟨B, 256, none⟩) hz).trans t256
          obtain ⟨aa, ac, haa, ra, -, -⟩ := HT.out.r10
          have ra2 := (hW.cell (p := ⟨B, 10, none⟩) hz).trans ra
          have hsz := hW.size
          go_wp2_with fail
          refine (C10.out _).mono ?_
          rintro e w1 ⟨rfl, rfl⟩
          have hWh := Lib.hid hW
          clear hW
          by_cases h0 : 0 < n
          · have e1 : ((n : Int) != 0) = true := by rw [bne_iff_ne]; omega
            have e2 : IntKind.i64.wrap ((n : Int) * 1) = (n : Int) := by rw [Int.mul_one, IntWalk.i64_in _ (by omega)]
            have e3 : IntKind.i64.wrap (((p.length : Int) + (m : Int)) + (n : Int)) = ((p.length : Int) + (m : Int)) + (n : Int) := IntWalk.i64_in _ (by omega)
            go_wp2_with fail
            go_quiet (fail)
            go_wp2_with fail
            go_roundw
            case rel => exact ⟨up_drewN hWh.out _, .inr (.inr ⟨by go_num, by rw [HE.out]; go_num, by rw [HC.out, decide_eq_true (by omega)]⟩)⟩
            case measure => simp [intOf]
          · have e0 : ((n : Int) != 0) = false := by rw [bne_eq_false_iff_eq]; omega
            have hq : n = 0 := by omega
            have HQ := Lib.hid hq
            clear hq
            go_wp2_with fail
            go_roundw
            case rel => exact ⟨hWh.out, .inr (.inr ⟨by go_num, by rw [HE.out, HQ.out, Nat.add_zero]; go_num, by rw [HC.out, HB.out, HQ.out, Nat.add_zero]⟩)⟩
            case measure => simp [intOf]
        · have hWh := Lib.hid hW
          have i3 : ¬ (2 : Int) < 2 := by omega
          clear hW
          go_wp2_with fail
          go_meet
          exact ⟨rfl, rfl, hWh⟩
    · clear e16
      go_wp2_with fail
      go_loop [5, 6, 10] (fun u a i => ∃ (k t : Nat) (b : Bool), k ≤ p.length ∧ t ≤ k ∧ i = .int .i64 k ∧ u = .int .i64 ((p.length + t : Nat) : Int) ∧ a = .bool b ∧ Hid (t = twos (p.take k)) ∧ Hid (b = decide (0 < t))) (fun _ _ i => p.length - (intOf i).toNat)
      case atStart => exact ⟨0, 0, false, Nat.zero_le _, Nat.le_refl _, rfl, rfl, rfl, Lib.hid rfl, Lib.hid rfl⟩
      case round =>
        obtain ⟨k, t, b, hk, ht, rfl, rfl, rfl, HQ, HQ2⟩ := hrel
        by_cases hlt : k < p.length
        · have i1 : (0 : Int) ≤ (k : Int) := by omega
          have i2 : (k : Int) < (p.length : Int) := by omega
          have hc2 := UInt8.toNat_lt p[k]
          have HS := Lib.hid (show twos (p.take (k + 1)) = t + (if p[k] = 10 ∨ p[k] = 92 then 1 else 0) by rw [List.take_succ_eq_append_getElem hlt, twos_snoc, HQ.out])
          by_cases h10 : (p[k]).toNat = 10
          · have HS2 := Lib.hid (show t + 1 = twos (p.take (k + 1)) by rw [HS.out, if_pos (.inl (UInt8.toNat_inj.1 h10))])
            obtain ⟨aa, ac, haa, ra, -, -⟩ := HT.out.r10
            go_wp2_with fail
            go_round
            case rel => exact ⟨k + 1, t + 1, true, by omega, by omega, by go_num, by go_num, rfl, HS2, Lib.hid (by simp)⟩
            case measure => simp [intOf]; omega
          · by_cases h92 : (p[k]).toNat = 92
            · have HS2 := Lib.hid (show t + 1 = twos (p.take (k + 1)) by rw [HS.out, if_pos (.inr (UInt8.toNat_inj.1 h92))])
              obtain ⟨aa, ac, haa, ra, -, -⟩ := HT.out.r92
              clear h10
              go_wp2_with fail
              go_round
              case rel => exact ⟨k + 1, t + 1, true, by omega, by omega, by go_num, by go_num, rfl, HS2, Lib.hid (by simp)⟩
              case measure => simp [intOf]; omega
            · have HS2 := Lib.hid (show t = twos (p.take (k + 1)) by rw [HS.out, if_neg (by rintro (e | e); exact h10 (by rw [e]; rfl); exact h92 (by rw [e]; rfl))]; rfl)
              have hn := HT.out.nils (p[k]).toNat hc2 h10 h92
              clear h10 h92
              go_wp2_with fail
              go_round
              case rel => exact ⟨k + 1, t, b, by omega, by omega, by go_num, by go_num, rfl, HS2, HQ2⟩
              case measure => simp [intOf]; omega
        · obtain rfl : k = p.length := by omega
          have HQ3 := Lib.hid (show t = m + n by have := HQ.out; rw [List.take_length] at this; rw [this]; exact HM.out.symm)
          have HQ4 := Lib.hid (show b = ch by rw [HQ2.out, HC.out, HQ3.out])
          have HQ5 := Lib.hid (show L = p.length + t by rw [HE.out, HQ3.out])
          go_wp2_with fail
          go_meet
          refine ⟨?_, ?_, Lib.hid (Below.refl _ _)⟩
          · rw [HQ5.out]; go_num
          · rw [HQ4.out]
  case rest =>
    obtain ⟨rfl, rfl, HW⟩ := hcut
    obtain ⟨w1, rfl⟩ : ∃ z, z = wc := ⟨_, rfl⟩
    rcases ch with _ | _
    · have HQ := Lib.hid (H0.out (by have := HC.out; rw [eq_comm, decide_eq_false_iff_not] at this; omega))
      have HWh := HW.out
      go_wp2_with fail
      go_ret
      rw [HQ.out]
      exact ⟨rfl, HWh⟩
    · obtain ⟨i0, hi, hz0, hz1, hz2⟩ := info_parts byte_info5
      go_upto_region 24 with (at_make; refine wpList_make_full _ rfl _ _ 22 rfl w1.heap.size 5 i0 _ 1 Tryz.underlying22 hi hz0 hz1 _ _ _ _ L rfl rfl rfl rfl (by rw [hz2]; omega) (by unfold maxLen; omega) (Nat.le_refl _) ?_; intro w2 how hgr)
      rw [made_buf] at how
      have hh := buf_new how
      have hW2 : Below w.heap.size w w2 := up_grown HW.out hgr (fun k hk => by cases hk)
      have hs2 : w1.heap.size < w2.heap.size := (Array.getElem?_eq_some_iff.1 hh).1
      have hs1 := HW.out.size
      obtain ⟨g, hg⟩ : ∃ g, g = w1.heap.size := ⟨_, rfl⟩
      rw [← hg] at hh hs2 ⊢
      have hgz : w.heap.size ≤ g := by omega
      have HH := Lib.hid hh
      have HW2 := Lib.hid hW2
      clear how hgr hg hh hW2 hs1
      go_wp2_with fail
      go_loopw [13, 14] (fun j i wr => ∃ (k : Nat) (q : List UInt8), k ≤ p.length ∧ i = .int .i64 k ∧ j = .int .i64 (q.length : Nat) ∧ q.length ≤ L ∧ Hid (q = esc (p.take k)) ∧ Hid (wr.heap[g]? = some (.cells (bufC q L).toArray 5 (0, 0))) ∧ Hid (Below w.heap.size w wr)) (fun _ i _ => p.length - (intOf i).toNat)
      case atStart => exact ⟨0, [], Nat.zero_le _, rfl, rfl, Nat.zero_le _, Lib.hid rfl, HH, HW2⟩
      case round =>
        obtain ⟨k, q, hk, rfl, rfl, hq, HQ, HB, HW3⟩ := hrel
        by_cases hlt : k < p.length
        · have i1 : (0 : Int) ≤ (k : Int) := by omega
          have i2 : (k : Int) < (p.length : Int) := by omega
          have hc2 := UInt8.toNat_lt p[k]
          have HS := Lib.hid (show esc (p.take (k + 1)) = q ++ esc1 p[k] by rw [List.take_succ_eq_append_getElem hlt, esc_snoc, HQ.out])
          have hle := esc_take p (k + 1)
          rw [HS.out, ← HL.out, List.length_append] at hle
          have hsz := HW3.out.size
          by_cases h10 : (p[k]).toNat = 10
          · have HE1 := Lib.hid (show esc1 p[k] = [92, 110] by unfold esc1; rw [if_pos (UInt8.toNat_inj.1 h10)])
            rw [HE1.out] at hle
            simp only [List.length_cons, List.length_nil] at hle
            obtain ⟨aa, ac, haa, ra, ra0, ra1⟩ := HT.out.r10
            have rb := (HW3.out.cell (p := ⟨B, 10, none⟩) hz).trans ra
            have rb0 := (HW3.out.cell (p := ⟨aa, 0, none⟩) haa).trans ra0
            have rb1 := (HW3.out.cell (p := ⟨aa, 1, none⟩) haa).trans ra1
            have e9 : IntKind.i64.wrap ((q.length : Int) + 2) = (q.length : Int) + 2 := IntWalk.i64_in _ (by omega)
            have hqL : q.length < L := by omega
            have hqL2 : ¬ L = q.length := by omega
            have hqL3 : ¬ q.length = L := by omega
            have src := Lib.hid (two_src rb0 rb1)
            go_upto_region 28 with (fail)
            go_region_law (go_loud (
              refine step_copy_splice rfl (.tmp 105) (.tmp 111) 22 22 rfl 5 Tryz.underlying22 (by kernel_rfl) (some ⟨g, q.length, none⟩) (some ⟨aa, 0, none⟩) (L - q.length) (L - q.length) 2 ac (by simp [Act.eval]) (by simp [Act.eval]) g q.length (bufC q L) 5 HB.out [.int .u8 92, .int .u8 110] (by show 2 = min 2 (L - q.length); omega) (fun _ => ⟨rfl, _, rfl, fun j v hj => src.out j v hj⟩) (by rw [bufC_len hq]; simp; omega) (by intro v hv; simp at hv; rcases hv with rfl | rfl <;> rfl) w.heap.size w (by first | exact up_drewN HW3.out _ | exact HW3.out) hgz ?_
              intro w4 hh4 hb4
              have HB4 := Lib.hid hb4
              clear hb4))
            all_goals
              go_wp2_with fail
              go_roundw
              case rel => exact ⟨k + 1, q ++ [92, 110], by omega, by go_num, congrArg (Value.int .i64) (by simp), by simp only [List.length_append, List.length_cons, List.length_nil]; omega, Lib.hid (by rw [HS.out, HE1.out]), Lib.hid (by have h7 := hh4.out; rwa [show splice (bufC q L) q.length [.int .u8 92, .int .u8 110] = bufC (q ++ [92, 110]) L from bufC_two 92 110 (by omega)] at h7), HB4⟩
              case measure => simp [intOf]; omega
          · by_cases h92 : (p[k]).toNat = 92
            · have HE1 := Lib.hid (show esc1 p[k] = [92, 92] by unfold esc1; rw [if_neg (fun h => h10 (by rw [h]; rfl)), if_pos (UInt8.toNat_inj.1 h92)])
              rw [HE1.out] at hle
              simp only [List.length_cons, List.length_nil] at hle
              obtain ⟨aa, ac, haa, ra, ra0, ra1⟩ := HT.out.r92
              have rb := (HW3.out.cell (p := ⟨B, 92, none⟩) hz).trans ra
              have rb0 := (HW3.out.cell (p := ⟨aa, 0, none⟩) haa).trans ra0
              have rb1 := (HW3.out.cell (p := ⟨aa, 1, none⟩) haa).trans ra1
              have e9 : IntKind.i64.wrap ((q.length : Int) + 2) = (q.length : Int) + 2 := IntWalk.i64_in _ (by omega)
              have hqL : q.length < L := by omega
              have hqL2 : ¬ L = q.length := by omega
              have hqL3 : ¬ q.length = L := by omega
              have src := Lib.hid (two_src rb0 rb1)
              go_upto_region 28 with (fail)
              go_region_law (go_loud (
                refine step_copy_splice rfl (.tmp 105) (.tmp 111) 22 22 rfl 5 Tryz.underlying22 (by kernel_rfl) (some ⟨g, q.length, none⟩) (some ⟨aa, 0, none⟩) (L - q.length) (L - q.length) 2 ac (by simp [Act.eval]) (by simp [Act.eval]) g q.length (bufC q L) 5 HB.out [.int .u8 92, .int .u8 92] (by show 2 = min 2 (L - q.length); omega) (fun _ => ⟨rfl, _, rfl, fun j v hj => src.out j v hj⟩) (by rw [bufC_len hq]; simp; omega) (by intro v hv; simp at hv; rcases hv with rfl | rfl <;> rfl) w.heap.size w (by first | exact up_drewN HW3.out _ | exact HW3.out) hgz ?_
                intro w4 hh4 hb4
                have HB4 := Lib.hid hb4
                clear hb4))
              all_goals
                go_wp2_with fail
                go_roundw
                case rel => exact ⟨k + 1, q ++ [92, 92], by omega, by go_num, congrArg (Value.int .i64) (by simp), by simp only [List.length_append, List.length_cons, List.length_nil]; omega, Lib.hid (by rw [HS.out, HE1.out]), Lib.hid (by have h7 := hh4.out; rwa [show splice (bufC q L) q.length [.int .u8 92, .int .u8 92] = bufC (q ++ [92, 92]) L from bufC_two 92 92 (by omega)] at h7), HB4⟩
                case measure => simp [intOf]; omega
            · have HE1 := Lib.hid (show esc1 p[k] = [p[k]] by unfold esc1; rw [if_neg (fun h => h10 (by rw [h]; rfl)), if_neg (fun h => h92 (by rw [h]; rfl))])
              rw [HE1.out] at hle
              simp only [List.length_cons, List.length_nil] at hle
              have rn := (HW3.out.cell (p := ⟨B, (p[k]).toNat, none⟩) hz).trans (HT.out.nils (p[k]).toNat hc2 h10 h92)
              have cj := (buf_cell (L := L) (j := q.length) HB.out).trans (buf_at (by omega))
              have fj := buf_frz (L := L) (j := q.length) HB.out
              have hqL : q.length < L := by omega
              have HB5 := Lib.hid (show (wr.setCell ⟨g, q.length, none⟩ (.int .u8 (((p[k]).toNat : Nat) : Int))).heap[g]? = some (.cells (bufC (q ++ [p[k]]) L).toArray 5 (0, 0)) by
                rw [heap_setCell_same _ _ _ _ _ _ HB.out, List.setIfInBounds_toArray, bufC_one _ (by omega)])
              have HB6 := Lib.hid (up_set HW3.out ⟨g, q.length, none⟩ (.int .u8 (((p[k]).toNat : Nat) : Int)) hgz)
              clear h10 h92
              go_wp2_with fail
              go_roundw
              case rel => exact ⟨k + 1, q ++ [p[k]], by omega, by go_num, congrArg (Value.int .i64) (by simp), by simp only [List.length_append, List.length_cons, List.length_nil]; omega, Lib.hid (by rw [HS.out, HE1.out]), HB5, HB6⟩
              case measure => simp [intOf]; omega
        · obtain rfl : k = p.length := by omega
          have HQ3 := Lib.hid (show q = esc p by rw [HQ.out, List.take_length])
          have hqL : q.length = L := by rw [HL.out, HQ3.out]
          have cv := run_convert_bytes_back (P := Tryz.prog) wr 22 9 5 ⟨g, 0, none⟩ L q Tryz.underlying22 Tryz.underlying5 Tryz.underlying9 (fun j hj => by
            have hadd : (⟨g, 0, none⟩ : Addr).add j = ⟨g, j, none⟩ := by unfold Addr.add; split <;> simp_all
            rw [hadd, buf_cell (L := L) HB.out]
            unfold bufC
            rw [List.getElem?_append_left (by simpa using hj), List.getElem?_map, List.getElem?_eq_getElem hj]
            rfl)
          rw [hqL] at cv
          have HF := HW3
          clear hqL
          go_wp2_with fail
          go_ret
          rw [← HQ3.out]
          exact ⟨rfl, HF.out⟩

end Go.Proofs.YtbjlkdenkmbepaaGreatDoor

namespace Go.Proofs.YtbjlkdenkmbepaaGreatDoor
open Go.RowKit
set_option linter.unusedVariables false

set_option maxRecDepth 100000 in
set_option maxHeartbeats 1000000 in
theorem replace_any (R q o c : Nat) (p : List UInt8) (w : World) (hR : IsB w R #[.int .u32 0, .int .i32 0, .int .u32 0, .nilIface, .slice (some ⟨q, o, none⟩) 4 c]) (hO : OldAt w q o) (hq : q ≠ R) (hp : p.length ≤ 120) :
    Calls Tryz.prog 129 #[.pointer (some ⟨R, 0, none⟩), S p] w fun e w' => e = .returned (S (esc p)) ∧ ∀ n, n ≤ R → Below n w w' := by
  have HD := Lib.hid (do_any R q o c w hR hO hq)
  have hRz := hR.2.2
  have hmf : ∀ (fn : Fn) (first cap : Array Value) (w : World), (Instr.makeFunc fn first cap).run Tryz.prog w = .ok (.func fn first cap) w := fun _ _ _ _ => rfl
  clear hR hO
  go_enter Tryz.func129, Tryz.ntmps129
  go_wp2_with fail
  refine HD.out.mono ?_
  rintro e w1 ⟨B, rfl, h3, hT, hB⟩
  have HB := Lib.hid hB
  have HT := Lib.hid (bsReplace_any B p w1 hT hp)
  clear hB hT
  go_wp2_with fail
  refine HT.out.mono ?_
  rintro e w2 ⟨rfl, hb⟩
  have HB2 := Lib.hid (fun n (hn : n ≤ R) => (HB.out n hn).trans (hb.mono (by have := (HB.out n hn).size; omega)))
  clear hb
  go_wp2_with fail
  go_ret
  exact ⟨rfl, HB2.out⟩

set_option maxRecDepth 100000 in
theorem sumOf_any (s : List UInt8) (w : World) (hs : s.length ≤ maxLen) :
    Calls Tryz.prog 131 #[S s] w fun e w' => e = .returned (.int .i64 (smS 0 s : Nat)) ∧ w = w' := by
  unfold maxLen at hs
  obtain ⟨z, hz⟩ : ∃ z, z = smS 0 s := ⟨_, rfl⟩
  have HZ := Lib.hid hz
  rw [← hz]
  clear hz
  go_enter Tryz.func131, Tryz.ntmps131
  go_wp2_with fail
  go_loop [3, 7] (fun n i => ∃ (k q : Nat), k ≤ s.length ∧ i = .int .i64 k ∧ n = .int .i64 q ∧ q < 997 ∧ Hid (q = smS 0 (s.take k))) (fun _ i => s.length - (intOf i).toNat)
  case atStart => exact ⟨0, 0, Nat.zero_le _, rfl, rfl, by omega, Lib.hid rfl⟩
  case round =>
    obtain ⟨k, q, hk, rfl, rfl, hq, HQ⟩ := hrel
    by_cases hlt : k < s.length
    · have i1 : (0 : Int) ≤ (k : Int) := by omega
      have i2 : (k : Int) < (s.length : Int) := by omega
      have HS := Lib.hid (show (31 * q + (s[k]).toNat) % 997 = smS 0 (s.take (k + 1)) by rw [List.take_succ_eq_append_getElem hlt, smS_snoc, HQ.out])
      have hc2 := UInt8.toNat_lt s[k]
      go_wp2_with fail
      go_round
      case rel => exact ⟨k + 1, (31 * q + (s[k]).toNat) % 997, by omega, by go_num, by go_num, by omega, HS⟩
      case measure => simp [intOf]; omega
    · obtain rfl : k = s.length := by omega
      have HF := Lib.hid (show z = q by rw [HZ.out, HQ.out, List.take_length])
      go_wp2_with fail
      go_ret
      exact ⟨ret_int (by rw [HF.out]), rfl⟩

end Go.Proofs.YtbjlkdenkmbepaaGreatDoor

namespace Go.Proofs.YtbjlkdenkmbepaaGreatDoor
open Go.RowKit
set_option linter.unusedVariables false

theorem itoa_any (n : Nat) (w : World) (hn : n < 1000) (h : LT w) :
    Calls Tryz.prog 130 #[.int .i64 n] w fun e w' => e = .returned (S (nm n)) ∧ Below w.heap.size w w' :=
  (Tryz.strconv_Itoa n (by omega) (by omega) w h).mono fun e w' ⟨he, k, os, hw⟩ => by
    subst hw
    refine ⟨?_, Lib.below_grow _ _ (Nat.le_refl _) _ _⟩
    rw [he, Lib.itoa_nonneg]
    rfl
/-- the four texts as an argument. -/
theorem old_arg (W : World) : RdL (W.alloc (.cells #[S [10], S [92, 110], S [92], S [92, 92]] 9)) 1 strC (.slice (some ⟨W.heap.size, 0, none⟩) 4 4) oldL := by
  refine ⟨rfl, by unfold maxLen; decide, _, _, rfl, Nat.le_refl _, fun _ => ⟨_, _, rfl, by simp, fun j u hu => ?_⟩⟩
  have h := cells_new W [S [10], S [92, 110], S [92], S [92, 92]] 9 j u hu
  have hadd : (⟨W.heap.size, 0, none⟩ : Addr).add j = ⟨W.heap.size, 0 + j, none⟩ := by unfold Addr.add; split <;> simp_all
  rwa [hadd] at h

theorem newRep_at (W : World) : Calls Tryz.prog 128 #[.slice (some ⟨W.heap.size, 0, none⟩) 4 4] (W.alloc (.cells #[.string ⟨#[10]⟩, .string ⟨#[92, 110]⟩, .string ⟨#[92]⟩, .string ⟨#[92, 92]⟩] 9)).drew (NewRp (W.alloc (.cells #[.string ⟨#[10]⟩, .string ⟨#[92, 110]⟩, .string ⟨#[92]⟩, .string ⟨#[92, 92]⟩] 9)).drew) :=
  newReplacer_any _ _ ((old_arg W).up (Below.refl _ _).drew)

theorem rep_below {W w2 w3 : World} {q R : Nat} {o : Obj} (h : Below (W.alloc o).drew.heap.size (W.alloc o).drew w2) (h1 : (W.alloc o).drew.heap.size ≤ q) (h2 : q < R) (h3 : ∀ n, n ≤ R → Below n w2 w3) : Below W.heap.size W w3 :=
  (up_trans (Below.drew (up_alloc (Below.refl _ _) o)) h).trans (h3 _ (by simp at h1; omega))

set_option maxRecDepth 100000 in
set_option maxHeartbeats 400000 in
theorem implRecordText_any (x : Ch) (w : World) (hp : x.p.length ≤ 1048576) (hL : LT w) :
    Calls Tryz.prog 80 #[chAgg x] w fun e w' => e = .returned (S (recT x.a x.c x.p)) ∧ Below w.heap.size w w' := by
  obtain ⟨a, c, p⟩ := x
  simp only at hp
  have HLT := Lib.hid hL
  clear hL
  unfold chAgg
  simp only
  rcases ha : inB a 0 120 with _ | _
  · have HR := Lib.hid (show recT a c p = [] by unfold recT recOk; rw [ha]; rfl)
    generalize recT a c p = r at *
    go_enter Tryz.func80, Tryz.ntmps80
    go_wp2_with (go_at_call 87; refine (in_any _ _ _ _).mono ?_; rintro e w1 ⟨rfl, rfl⟩)
    go_ret
    rw [HR.out]
    exact ⟨rfl, by (repeat (first | exact Below.refl _ _ | assumption | refine Below.drew ?_ | refine up_drewN ?_ _ | refine up_alloc ?_ _ | refine up_set ?_ _ _ (by first | exact Nat.le_refl _ | (simp; done) | (simp; omega) | omega) | refine up_trans ?_ (by assumption)))⟩
  rcases hc : inB c 0 120 with _ | _
  · have HR := Lib.hid (show recT a c p = [] by unfold recT recOk; rw [ha, hc]; rfl)
    generalize recT a c p = r at *
    go_enter Tryz.func80, Tryz.ntmps80
    go_wp2_with (go_at_call 87; refine (in_any _ _ _ _).mono ?_; rintro e w1 ⟨rfl, rfl⟩)
    go_ret
    rw [HR.out]
    exact ⟨rfl, by (repeat (first | exact Below.refl _ _ | assumption | refine Below.drew ?_ | refine up_drewN ?_ _ | refine up_alloc ?_ _ | refine up_set ?_ _ _ (by first | exact Nat.le_refl _ | (simp; done) | (simp; omega) | omega) | refine up_trans ?_ (by assumption)))⟩
  have hml : p.length ≤ maxLen := by unfold maxLen; omega
  rcases ht : tv p with _ | _
  · have HR := Lib.hid (show recT a c p = [] by unfold recT recOk; rw [ha, hc, ht]; rfl)
    generalize recT a c p = r at *
    go_enter Tryz.func80, Tryz.ntmps80
    go_wp2_with (first | (go_at_call 87; refine (in_any _ _ _ _).mono ?_; rintro e w1 ⟨rfl, rfl⟩) | (go_at_call 53; refine (implTextValid_any p _ hml).mono ?_; rintro e w1 ⟨rfl, rfl⟩))
    go_ret
    rw [HR.out]
    exact ⟨rfl, by (repeat (first | exact Below.refl _ _ | assumption | refine Below.drew ?_ | refine up_drewN ?_ _ | refine up_alloc ?_ _ | refine up_set ?_ _ _ (by first | exact Nat.le_refl _ | (simp; done) | (simp; omega) | omega) | refine up_trans ?_ (by assumption)))⟩
  have hR : recT a c p = recX a.toNat c.toNat p := by unfold recT recOk; rw [ha, hc, ht]; rfl
  have HAI := Lib.hid ha
  have HCI := Lib.hid hc
  have ha2 := inB_iff.1 ha
  have hc2 := inB_iff.1 hc
  have hl := tv_len ht
  obtain ⟨a, rfl⟩ := Int.eq_ofNat_of_zero_le ha2.1
  obtain ⟨c, rfl⟩ := Int.eq_ofNat_of_zero_le hc2.1
  rw [Int.toNat_natCast, Int.toNat_natCast] at hR
  have ha3 : a ≤ 120 := by omega
  have hc3 : c ≤ 120 := by omega
  have la := nm_len (n := a) (by omega)
  have lc := nm_len (n := c) (by omega)
  have HX := Lib.hid (show recB a c p = nm a ++ 32 :: (nm c ++ 32 :: esc p) from rfl)
  have HR := Lib.hid (show recT (a : Int) (c : Int) p = (recB a c p ++ [32]) ++ nm (smS 0 (recB a c p)) by rw [hR]; simp [recX])
  generalize recT (a : Int) (c : Int) p = r at *
  clear hR ha2 hc2
  go_enter Tryz.func80, Tryz.ntmps80
  go_upto_region 3 with (first | (go_at_call 87; refine (in_any _ _ _ _).mono ?_; rintro e w1 ⟨rfl, rfl⟩) | (go_at_call 53; refine (implTextValid_any p _ hml).mono ?_; rintro e w1 ⟨rfl, rfl⟩))
  obtain ⟨w1, hw1⟩ : ∃ z, z = w.alloc (.cells #[.int .i64 (a : Int), .int .i64 (c : Int), S p] 78) := ⟨_, rfl⟩
  have hb : Below w.heap.size w w1 := by rw [hw1]; (repeat (first | exact Below.refl _ _ | assumption | refine Below.drew ?_ | refine up_drewN ?_ _ | refine up_alloc ?_ _ | refine up_set ?_ _ _ (by first | exact Nat.le_refl _ | (simp; done) | (simp; omega) | omega) | refine up_trans ?_ (by assumption)))
  have xc : ∀ o, w1.cell? ⟨w.heap.size, o, none⟩ = #[.int .i64 (a : Int), .int .i64 (c : Int), S p][o]? := fun o => by rw [hw1]; simp [go_sem]
  have xz : w.heap.size < w1.heap.size := by rw [hw1]; simp
  rw [← hw1]
  clear hw1 ha hc ht
  have HLT1 := Lib.hid (HLT.out.up hb)
  have HB := Lib.hid hb
  have lp := esc_len p
  have le : (esc p).length ≤ 240 := by omega
  clear hb HLT lp
  go_region_with (first
    | (go_at_call 128; go_loud ((with_reducible refine (newRep_at _).mono ?_); rintro e w2 ⟨R, q, o, cc, rfl, hq1, hq2, hq3, hR, hO, hb⟩; have x2 := (hb.cell (p := ⟨w.heap.size, 2, none⟩) (by simp; omega)).trans (by simp [go_sem, xc, xz] : _ = some (S p)); have HR2 := Lib.hid hR; have HO2 := Lib.hid hO; have HB2 := Lib.hid hb; clear hR hO hb))
    | (go_at_call 129; go_loud ((with_reducible refine (replace_any R q o cc p w2 HR2.out HO2.out (by omega) hl).mono ?_); rintro e w3 ⟨rfl, hb3⟩; have HB3 := Lib.hid (rep_below HB2.out hq1 hq2 hb3); clear hb3)))
  all_goals
    replace xc := up_c HB3.out xz xc
    replace xz := Nat.lt_of_lt_of_le xz HB3.out.size
    have HLT3 := Lib.hid (HLT1.out.up HB3.out)
    have hW := up_trans HB.out HB3.out
    have HW := Lib.hid hW
    clear x2 HR2 HO2 HB2 HB3 HLT1 hq1 hq2 hq3 HB hW
    have CA := Lib.hid (fun y : UpW w3 => calls_up (itoa_any a (y.at w3) (by omega) (HLT3.out.up y.2)))
    have CC := Lib.hid (fun y : UpW w3 => calls_up (itoa_any c (y.at w3) (by omega) (HLT3.out.up y.2)))
    have hne := UpW.nonempty w3
    go_simp
    go_wp2_with fail
    refine wp_region_up_lit (by kernel_rfl) (by kernel_rfl) ?_
    repeat (go_big_quiet_step ((go_at_call 130; first | (with_reducible exact CA.out _) | (with_reducible exact CC.out _))))
    refine wpQuiet_nil ?_
    intro w4 hb4
    replace hb4 := UpW.out hb4
    replace xc := up_c hb4 xz xc
    have HLT4 := Lib.hid (HLT3.out.up hb4)
    have HW4 := Lib.hid (up_trans HW.out hb4)
    rw [← HX.out]
    have hlen : (recB a c p).length ≤ 250 := by rw [HX.out]; simp; omega
    clear hb4 CA CC hne HX HLT3 HW xc xz la lc le
    generalize recB a c p = s at *
    have hsm := smS_lt s 0 (by omega)
    have hns := nm_len (n := smS 0 s) (by omega)
    have N1 := Lib.hid (itoa_any (smS 0 s) w4 (by omega) HLT4.out)
    go_wp2_with fail
    refine (sumOf_any s _ (by unfold maxLen; omega)).mono ?_
    rintro e w5 ⟨rfl, rfl⟩
    generalize smS 0 s = m at *
    go_wp2_with fail
    refine N1.out.mono ?_
    rintro e w5 ⟨rfl, hb5⟩
    have hW5 := up_trans HW4.out hb5
    clear hb5
    go_wp2_with fail
    go_ret
    rw [HR.out]
    exact ⟨by simp, hW5⟩

end Go.Proofs.YtbjlkdenkmbepaaGreatDoor
