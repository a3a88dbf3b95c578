/- What is proved here: What is proved here: contracts of the reader of codes: l20Open, pick, odd. No condition but that the code is a slice of bytes. What is proved here: an argument that is a slice of bytes is opened into the words of the walks. No condition. -/
import Derived.Test.YtbjlkdenkmbepaaGreatDoorBase
import Derived.Deep.QuietTactic
import Derived.BigQuiet
import Derived.Laws.BitsAllLaws
import Derived.Laws.BitsLemmas
import Derived.ProofKit
import Derived.OpenShut
namespace Go.Proofs.YtbjlkdenkmbepaaGreatDoor
open Go.RowKit

/-- v is a slice of bytes below block B. -/
def Bytes (w : World) (B : Nat) (v : Value) (n : Nat) (zs : List Int) : Prop :=
  zs.length = n ∧ (∀ z ∈ zs, 0 ≤ z ∧ z ≤ 255) ∧ ∃ A c, v = .slice A n c ∧ n ≤ c ∧ c ≤ maxLen ∧ (0 < n → ∃ b o, A = some ⟨b, o, none⟩ ∧ b < B ∧ ∀ j z, zs[j]? = some z → w.cell? ⟨b, o + j, none⟩ = some (.int .u8 z))

/-- block g is a reader over such a slice, at place p. -/
def Rdr (w : World) (g : Nat) (n : Nat) (zs : List Int) (p : Nat) : Prop :=
  ∃ v, w.heap[g]? = some (.cells #[v, .int .i64 p] 99 (0, 0)) ∧ n ≤ 2000 ∧ p ≤ 1000000000 ∧ Bytes w g v n zs

theorem Bytes.keep {w w' : World} {B : Nat} {v : Value} {n : Nat} {zs : List Int} (h : Bytes w B v n zs) (hk : ∀ b o, b < B → w'.cell? ⟨b, o, none⟩ = w.cell? ⟨b, o, none⟩) : Bytes w' B v n zs := by
  obtain ⟨h1, h2, A, c, rfl, h3, h4, h5⟩ := h
  refine ⟨h1, h2, A, c, rfl, h3, h4, fun hn => ?_⟩
  obtain ⟨b, o, rfl, hb, hc⟩ := h5 hn
  exact ⟨b, o, rfl, hb, fun j z hz => (hk b _ hb).trans (hc j z hz)⟩
theorem Rdr.lt {w : World} {g n p : Nat} {zs : List Int} (h : Rdr w g n zs p) : g < w.heap.size := by
  obtain ⟨v, h, _⟩ := h
  exact (Array.getElem?_eq_some_iff.1 h).1
theorem Rdr.up {w w' : World} {g n p : Nat} {zs : List Int} (h : Rdr w g n zs p) (hb : Below w.heap.size w w') : Rdr w' g n zs p := by
  have hg := h.lt
  obtain ⟨v, h1, h2, h3, h4⟩ := h
  exact ⟨v, (hb.block g hg).trans h1, h2, h3, h4.keep fun b o hbg => hb.cell (p := ⟨b, o, none⟩) (by show b < _; omega)⟩
theorem Rdr.grown {w w' : World} {g n p : Nat} {zs : List Int} {row : Option Nat} (h : Rdr w g n zs p) (hb : w.grownBy w' row) (hr : ∀ k, row = some k → g < k) : Rdr w' g n zs p := by
  have hg := h.lt
  obtain ⟨v, h1, h2, h3, h4⟩ := h
  refine ⟨v, (hb.block g hg (fun e => by have := hr g e.symm; omega)).trans h1, h2, h3, h4.keep fun b o hbg => World.cell?_of_block (hb.block b (by omega) (fun e => by have := hr b e.symm; omega))⟩

theorem Rdr.below {w w' : World} {g n p : Nat} {zs : List Int} (h : Rdr w g n zs p) (hb : Below (g + 1) w w') : Rdr w' g n zs p := by
  obtain ⟨v, h1, h2, h3, h4⟩ := h
  exact ⟨v, (hb.block g (by omega)).trans h1, h2, h3, h4.keep fun b o hbg => hb.cell (p := ⟨b, o, none⟩) (by show b < _; omega)⟩

theorem xor_nat (a b : Nat) (ha : a < 9223372036854775808) (hb : b < 9223372036854775808) : bits .xor .i64 (a : Int) (b : Int) = ((a ^^^ b : Nat) : Int) := by
  have hx : a ^^^ b < 2 ^ 63 := Nat.xor_lt_two_pow (by omega) (by omega)
  have o : ∀ c : Nat, c < 9223372036854775808 → (BitVec.ofInt 64 (c : Int)).toNat = c := fun c hc => by rw [BitVec.ofInt_natCast, BitVec.toNat_ofNat]; exact Nat.mod_eq_of_lt (by omega)
  show IntKind.i64.wrap ((BitVec.ofInt 64 (a : Int) ^^^ BitVec.ofInt 64 (b : Int)).toNat : Int) = _
  rw [BitVec.toNat_xor, o a ha, o b hb, IntKind.wrap_i64]
  omega

def PickPost (g n : Nat) (zs : List Int) (p : Nat) (k : Int) (w : World) (e : Ending) (w' : World) : Prop :=
  ∃ x : Int, e = .returned (.int .i64 x) ∧ (1 ≤ k → 0 ≤ x ∧ x < k) ∧ (k < 1 → x = 0) ∧ Rdr w' g n zs (p + 1) ∧ w.grownBy w' (some g)

theorem rdr_step {w : World} {g n p : Nat} {zs : List Int} {v : Value} (h0 : w.heap[g]? = some (.cells #[v, .int .i64 p] 99 (0, 0))) (h1 : n ≤ 2000) (h2 : p < 1000000000) (h3 : Bytes w g v n zs) (d : Nat) :
    Rdr ((w.setCell ⟨g, 1, none⟩ (.int .i64 ((p : Int) + 1))).drewN d) g n zs (p + 1) ∧ w.grownBy ((w.setCell ⟨g, 1, none⟩ (.int .i64 ((p : Int) + 1))).drewN d) (some g) := by
  refine ⟨⟨v, ?_, h1, by omega, ?_⟩, ⟨rfl, rfl, rfl, by simp [World.setCell], fun k hk hne => ?_⟩⟩
  · show (w.setCell _ _).heap[g]? = _
    rw [heap_setCell_same w g 1 _ _ _ h0]
    simp
  · refine h3.keep fun b o hb => ?_
    exact World.cell?_setCell_other w ⟨g, 1, none⟩ ⟨b, o, none⟩ _ (fun e => by injection e; omega)
  · exact heap_setCell_other w ⟨g, 1, none⟩ k _ (fun e => hne (by rw [e]))

set_option maxRecDepth 100000 in
set_option maxHeartbeats 1000000 in
theorem pick_zero (g n : Nat) (zs : List Int) (p : Nat) (k : Int) (w : World) (hr : Rdr w g n zs p) (hp : p < 1000000000) (hk : k < 1 ∨ n = 0) :
    Calls Tryz.prog 44 #[.pointer (some ⟨g, 0, none⟩), .int .i64 k] w (PickPost g n zs p k w) := by
  obtain ⟨v, h0, h1, h2, h3⟩ := hr
  have c0 := cell_of_row w g 0 _ _ (0, 0) h0
  have c1 := cell_of_row w g 1 _ _ (0, 0) h0
  have f1 := frozen_of_row w g 1 _ _ h0
  simp at c0 c1
  have HS := Lib.hid (rdr_step h0 h1 hp h3 0)
  obtain ⟨hl, hz, A, c, rfl, hnc, hcm, hA⟩ := h3
  clear h0 hA hz hl
  by_cases hk1 : k < 1
  all_goals
    go_enter Tryz.func44, Tryz.ntmps44
    go_wp2
    go_ret
    exact ⟨0, rfl, fun h => ⟨by omega, by omega⟩, fun _ => rfl, HS.out.1, HS.out.2⟩

set_option maxRecDepth 100000 in
set_option maxHeartbeats 1000000 in
theorem pick_in (g n : Nat) (zs : List Int) (p : Nat) (k : Int) (w : World) (hr : Rdr w g n zs p) (hp : p < 1000000000) (hk : 1 ≤ k) (hn : p < n) :
    Calls Tryz.prog 44 #[.pointer (some ⟨g, 0, none⟩), .int .i64 k] w (PickPost g n zs p k w) := by
  obtain ⟨v, h0, h1, h2, h3⟩ := hr
  have c0 := cell_of_row w g 0 _ _ (0, 0) h0
  have c1 := cell_of_row w g 1 _ _ (0, 0) h0
  have f1 := frozen_of_row w g 1 _ _ h0
  simp at c0 c1
  have HS := Lib.hid (rdr_step h0 h1 hp h3 0)
  obtain ⟨hl, hz, A, c, rfl, hnc, hcm, hA⟩ := h3
  obtain ⟨b, o, rfl, hb, hc⟩ := hA (by omega)
  have hzp : zs[p]? = some zs[p] := List.getElem?_eq_getElem (by omega)
  obtain ⟨z, hzz⟩ : ∃ z, z = zs[p] := ⟨_, rfl⟩
  rw [← hzz] at hzp
  have hz1 := hz z (by rw [hzz]; exact List.getElem_mem _)
  have cz := hc p z hzp
  have czs : (w.setCell ⟨g, 1, none⟩ (.int .i64 ((p : Int) + 1))).cell? ⟨b, o + p, none⟩ = some (.int .u8 z) :=
    (World.cell?_setCell_other w ⟨g, 1, none⟩ ⟨b, o + p, none⟩ _ (fun e => by injection e; omega)).trans cz
  clear h0 hA hz hl hc hzp cz hzz
  have hk1 : ¬ k < 1 := by omega
  have hn0 : ((n : Int) == 0) = false := by simp; omega
  go_enter Tryz.func44, Tryz.ntmps44
  go_wp2
  go_ret
  have hx0 := Int.emod_nonneg z (show k ≠ 0 by omega)
  have hx1 := Int.emod_lt_of_pos z (show 0 < k by omega)
  exact ⟨_, rfl, fun h => ⟨hx0, hx1⟩, fun h => absurd h (by omega), HS.out.1, HS.out.2⟩

theorem at_mod {w : World} {b o n : Nat} {zs : List Int} (hl : zs.length = n) (hz : ∀ z ∈ zs, 0 ≤ z ∧ z ≤ 255) (hc : ∀ j z, zs[j]? = some z → w.cell? ⟨b, o + j, none⟩ = some (.int .u8 z)) (hn : 0 < n) (q : Nat) :
    ∃ z : Int, 0 ≤ z ∧ z ≤ 255 ∧ w.cell? ⟨b, o + q % n, none⟩ = some (.int .u8 z) := by
  have hq : q % n < zs.length := by have := Nat.mod_lt q hn; omega
  exact ⟨zs[q % n], (hz _ (List.getElem_mem hq)).1, (hz _ (List.getElem_mem hq)).2, hc _ _ (List.getElem?_eq_getElem hq)⟩

set_option maxRecDepth 100000 in
set_option maxHeartbeats 2000000 in
theorem pick_far (g n : Nat) (zs : List Int) (p : Nat) (k : Int) (w : World) (hr : Rdr w g n zs p) (hp : p < 1000000000) (hk : 1 ≤ k) (hn : n ≤ p) (hn1 : 1 ≤ n) :
    Calls Tryz.prog 44 #[.pointer (some ⟨g, 0, none⟩), .int .i64 k] w (PickPost g n zs p k w) := by
  obtain ⟨v, h0, h1, h2, h3⟩ := hr
  have c0 := cell_of_row w g 0 _ _ (0, 0) h0
  have c1 := cell_of_row w g 1 _ _ (0, 0) h0
  have f1 := frozen_of_row w g 1 _ _ h0
  simp at c0 c1
  have HS := Lib.hid (fun d => rdr_step h0 h1 hp h3 d)
  obtain ⟨hl, hz, A, c, rfl, hnc, hcm, hA⟩ := h3
  obtain ⟨b, o, rfl, hb, hc⟩ := hA (by omega)
  obtain ⟨z1, a1, a2, d1⟩ := at_mod hl hz hc (by omega) p
  obtain ⟨z2, b1, b2, d2⟩ := at_mod hl hz hc (by omega) (p * 7 + 3)
  have cs : ∀ q z, w.cell? ⟨b, o + q, none⟩ = some (.int .u8 z) → (w.setCell ⟨g, 1, none⟩ (.int .i64 ((p : Int) + 1))).cell? ⟨b, o + q, none⟩ = some (.int .u8 z) := fun q z h =>
    (World.cell?_setCell_other w ⟨g, 1, none⟩ ⟨b, o + q, none⟩ _ (fun e => by injection e; omega)).trans h
  have e1 := cs _ _ d1
  have e2 := cs _ _ d2
  have m1 : p % n < n := Nat.mod_lt _ (by omega)
  have m2 : (p * 7 + 3) % n < n := Nat.mod_lt _ (by omega)
  have m3 : p / n ≤ p := Nat.div_le_self _ _
  clear h0 hA hz hl hc d1 d2 cs
  have hk1 : ¬ k < 1 := by omega
  have hn0 : ((n : Int) == 0) = false := by simp; omega
  have hn3 : ¬ n = 0 := by omega
  have md0 : (0 : Int) ≤ (p : Int) / (n : Int) := Int.ediv_nonneg (by omega) (by omega)
  have md1 : (p : Int) / (n : Int) ≤ 1000000000 := by have : ((p / n : Nat) : Int) = (p : Int) / (n : Int) := rfl; omega
  have q1 : IntKind.i64.wrap ((p : Int).tmod (n : Int)) = (p : Int) % (n : Int) := by rw [Int.tmod_eq_emod_of_nonneg (by omega)]; exact IntWalk.i64_in _ (by have := Int.emod_nonneg (p : Int) (show (n : Int) ≠ 0 by omega); have := Int.emod_lt_of_pos (p : Int) (show 0 < (n : Int) by omega); omega)
  have q2 : IntKind.i64.wrap ((p : Int) * 7) = (p : Int) * 7 := IntWalk.i64_in _ (by omega)
  have q3 : IntKind.i64.wrap ((p : Int) * 7 + 3) = (p : Int) * 7 + 3 := IntWalk.i64_in _ (by omega)
  have q4 : IntKind.i64.wrap (((p : Int) * 7 + 3).tmod (n : Int)) = ((p : Int) * 7 + 3) % (n : Int) := by rw [Int.tmod_eq_emod_of_nonneg (by omega)]; exact IntWalk.i64_in _ (by have := Int.emod_nonneg ((p : Int) * 7 + 3) (show (n : Int) ≠ 0 by omega); have := Int.emod_lt_of_pos ((p : Int) * 7 + 3) (show 0 < (n : Int) by omega); omega)
  have q5 : IntKind.i64.wrap (z1 * 131) = z1 * 131 := IntWalk.i64_in _ (by omega)
  have q6 : IntKind.i64.wrap (z2 * 1117) = z2 * 1117 := IntWalk.i64_in _ (by omega)
  have q7 : IntKind.i64.wrap (z1 * 131 + z2 * 1117) = z1 * 131 + z2 * 1117 := IntWalk.i64_in _ (by omega)
  have q8 : IntKind.i64.wrap ((p : Int) * 29) = (p : Int) * 29 := IntWalk.i64_in _ (by omega)
  have q9 : IntKind.i64.wrap (z1 * 131 + z2 * 1117 + (p : Int) * 29) = z1 * 131 + z2 * 1117 + (p : Int) * 29 := IntWalk.i64_in _ (by omega)
  have q10 : IntKind.i64.wrap ((p : Int).tdiv (n : Int)) = (p : Int) / (n : Int) := by rw [Int.tdiv_eq_ediv_of_nonneg (by omega)]; exact IntWalk.i64_in _ (by omega)
  have q11 : IntKind.i64.wrap ((p : Int) / (n : Int) * 53) = (p : Int) / (n : Int) * 53 := IntWalk.i64_in _ (by omega)
  have q12 : IntKind.i64.wrap (z1 * 131 + z2 * 1117 + (p : Int) * 29 + (p : Int) / (n : Int) * 53) = z1 * 131 + z2 * 1117 + (p : Int) * 29 + (p : Int) / (n : Int) * 53 := IntWalk.i64_in _ (by omega)
  have s1 : (((p : Int) * 7 + 3) % (n : Int)).toNat = (p * 7 + 3) % n := by have : (((p * 7 + 3) % n : Nat) : Int) = ((p : Int) * 7 + 3) % (n : Int) := rfl; omega
  have s2 : (0 : Int) ≤ ((p : Int) * 7 + 3) % (n : Int) := Int.emod_nonneg _ (by omega)
  have s3 : ((p : Int) * 7 + 3) % (n : Int) < (n : Int) := Int.emod_lt_of_pos _ (by omega)
  have s4 : ((p : Int) % (n : Int)).toNat = p % n := by have : ((p % n : Nat) : Int) = (p : Int) % (n : Int) := rfl; omega
  have s5 : (0 : Int) ≤ (p : Int) % (n : Int) := Int.emod_nonneg _ (by omega)
  have s6 : (p : Int) % (n : Int) < (n : Int) := Int.emod_lt_of_pos _ (by omega)
  go_enter Tryz.func44, Tryz.ntmps44
  go_wp2_with fail
  go_quiet (fail)
  obtain ⟨X, hX, hX1⟩ : ∃ X : Nat, z1 * 131 + z2 * 1117 + (p : Int) * 29 + (p : Int) / (n : Int) * 53 = (X : Int) ∧ X < 1000000000000000 := ⟨(z1 * 131 + z2 * 1117 + (p : Int) * 29 + (p : Int) / (n : Int) * 53).toNat, by omega, by omega⟩
  obtain ⟨Y, hY⟩ : ∃ Y : Nat, bits .xor .i64 (X : Int) ((X : Int) / 64) = (Y : Int) := ⟨X ^^^ (X / 64), xor_nat X (X / 64) (by omega) (by omega)⟩
  clear q1 q2 q3 q4 q5 q6 q7 q8 q9 q10 q11 q12 s1 s2 s3 s4 s5 s6 c0 c1 e1 e2
  go_wp2_with fail
  go_ret
  have hx0 := Int.emod_nonneg (Y : Int) (show k ≠ 0 by omega)
  have hx1 := Int.emod_lt_of_pos (Y : Int) (show 0 < k by omega)
  exact ⟨_, rfl, fun h => ⟨hx0, hx1⟩, fun h => absurd h (by omega), (HS.out _).1, (HS.out _).2⟩

theorem pick_any (g n : Nat) (zs : List Int) (p : Nat) (k : Int) (w : World) (hr : Rdr w g n zs p) (hp : p < 1000000000) :
    Calls Tryz.prog 44 #[.pointer (some ⟨g, 0, none⟩), .int .i64 k] w (PickPost g n zs p k w) := by
  by_cases h1 : k < 1 ∨ n = 0
  · exact pick_zero g n zs p k w hr hp h1
  · by_cases h2 : p < n
    · exact pick_in g n zs p k w hr hp (by omega) h2
    · exact pick_far g n zs p k w hr hp (by omega) (by omega) (by omega)

def OddPost (g n : Nat) (zs : List Int) (p : Nat) (w : World) (e : Ending) (w' : World) : Prop :=
  ∃ x : Bool, e = .returned (.bool x) ∧ (∃ q, q ≤ p + 1 ∧ Rdr w' g n zs q) ∧ w.grownBy w' (some g)

theorem odd_any (g n : Nat) (zs : List Int) (p : Nat) (k : Int) (w : World) (hr : Rdr w g n zs p) (hp : p < 1000000000) :
    Calls Tryz.prog 46 #[.pointer (some ⟨g, 0, none⟩), .int .i64 k] w (OddPost g n zs p w) := by
  by_cases h1 : 0 < k
  · go_enter Tryz.func46, Tryz.ntmps46
    go_wp2_with fail
    refine (pick_any _ _ _ _ _ _ hr hp).mono ?_
    rintro e w1 ⟨x, rfl, h2, h3, h4, h5⟩
    have H4 := Lib.hid h4
    have H5 := Lib.hid h5
    clear h4 h5 h3 h2 hr
    go_wp2_with fail
    go_ret
    exact ⟨_, rfl, ⟨_, Nat.le_refl _, H4.out⟩, H5.out⟩
  · go_enter Tryz.func46, Tryz.ntmps46
    go_wp2_with fail
    go_ret
    exact ⟨_, rfl, ⟨_, Nat.le_succ _, hr⟩, World.grownBy.refl _ _⟩

theorem Bytes.up {w w' : World} {B : Nat} {v : Value} {n : Nat} {zs : List Int} (h : Bytes w B v n zs) (hB : B ≤ w.heap.size) (hb : Below w.heap.size w w') : Bytes w' B v n zs :=
  h.keep fun b o hlt => hb.cell (p := ⟨b, o, none⟩) (show b < _ by omega)
theorem Bytes.more {w : World} {B B' : Nat} {v : Value} {n : Nat} {zs : List Int} (h : Bytes w B v n zs) (hB : B ≤ B') : Bytes w B' v n zs := by
  obtain ⟨h1, h2, A, c, rfl, h3, h4, h5⟩ := h
  refine ⟨h1, h2, A, c, rfl, h3, h4, fun hn => ?_⟩
  obtain ⟨b, o, rfl, hb, hc⟩ := h5 hn
  exact ⟨b, o, rfl, by omega, hc⟩

theorem Bytes.to {w w' : World} {v : Value} {n : Nat} {zs : List Int} (h : Bytes w w.heap.size v n zs) (hb : Below w.heap.size w w') : Bytes w' w'.heap.size v n zs :=
  (h.up (Nat.le_refl _) hb).more hb.size

def OpenPost (w : World) (e : Ending) (w' : World) : Prop :=
  ∃ g n zs, e = .returned (.pointer (some ⟨g, 0, none⟩)) ∧ Rdr w' g n zs 0 ∧ Below w.heap.size w w' ∧ w.heap.size ≤ g

theorem rdr_new (w : World) (v : Value) (n : Nat) (zs : List Int) (h : Bytes w w.heap.size v n zs) (hn : n ≤ 2000) : Rdr (w.alloc (.cells #[v, .int .i64 0] 99)) w.heap.size n zs 0 :=
  ⟨v, heap_alloc_new w _, hn, by omega, h.keep fun b o hb => World.cell?_alloc_lt w _ ⟨b, o, none⟩ hb⟩
theorem bytes_cut {w : World} {A : Option Addr} {n c m c' : Nat} {zs : List Int} (h : Bytes w w.heap.size (.slice A n c) n zs) (hm : m ≤ n) (hc : m ≤ c') (hcc : c' ≤ c) : Bytes w w.heap.size (.slice A m c') m (zs.take m) := by
  obtain ⟨h1, h2, A', c'', he, h3, h4, h5⟩ := h
  injection he with e1 e2 e3
  subst e1 e3
  refine ⟨by rw [List.length_take]; omega, fun z hz => h2 z (List.mem_of_mem_take hz), A, c', rfl, hc, by omega, fun hn => ?_⟩
  obtain ⟨b, o, rfl, hb, hcell⟩ := h5 (by omega)
  refine ⟨b, o, rfl, hb, fun j z hz => hcell j z ?_⟩
  rw [List.getElem?_take] at hz
  split at hz
  · exact hz
  · cases hz

theorem open_any (v : Value) (n : Nat) (zs : List Int) (w : World) (h : Bytes w w.heap.size v n zs) :
    Calls Tryz.prog 42 #[v] w (OpenPost w) := by
  have h' := h
  obtain ⟨h1, h2, A, c, rfl, h3, h4, h5⟩ := h
  unfold maxLen at h4
  clear h5 h2 h1
  by_cases hn : n ≤ 2000
  · have HS := Lib.hid (rdr_new w _ n zs h' hn)
    clear h'
    go_enter Tryz.func42, Tryz.ntmps42
    go_wp2_with fail
    go_ret
    exact ⟨_, n, zs, rfl, HS.out, by exact bBel, Nat.le_refl _⟩
  · have HS := Lib.hid (rdr_new w _ 2000 _ (bytes_cut h' (by omega) (show 2000 ≤ c by omega) (Nat.le_refl _)) (Nat.le_refl _))
    clear h'
    have hc1 : (2000 : Int) ≤ (c : Int) := by omega
    have hc2 : ¬ c = 0 := by omega
    go_enter Tryz.func42, Tryz.ntmps42
    go_wp2_with fail
    go_ret
    exact ⟨_, 2000, _, rfl, HS.out, by exact bBel, Nat.le_refl _⟩

end Go.Proofs.YtbjlkdenkmbepaaGreatDoor

namespace Go.Proofs.YtbjlkdenkmbepaaGreatDoor
open Go.ChangeShapes Go.WideShapes Go.ChangeAt Go.RowKit

theorem bytes_of {W : World} {x : Addr} {len cap : Nat} {zs : List Int} (hl : len ≤ cap) (hm : cap ≤ maxLen) (hz : zs.length = cap)
    (hcell : ∀ i, i < zs.length → W.cell? (x.add i) = some (.int .u8 (zs.getD i 0))) (hwz : ∀ n ∈ zs, (Lit.int .u8 n).wf = true) : Bytes W W.heap.size (.slice (some x) len cap) len (zs.take len) := by
  refine ⟨by rw [List.length_take]; omega, fun z hz' => ?_, some x, cap, rfl, hl, hm, fun hn => ?_⟩
  · exact bounds_u8 (hwz z (List.mem_of_mem_take hz'))
  · obtain ⟨b, o, spot⟩ := x
    have hc := hcell 0 (by omega)
    have hspot : spot = none := by simpa [Addr.add] using World.cell?_spot hc
    subst hspot
    have hadd : ∀ j, (⟨b, o, none⟩ : Addr).add j = ⟨b, o + j, none⟩ := fun j => by unfold Addr.add; split <;> simp_all
    have hlt := World.block_lt_of_cell? W _ hc
    rw [hadd] at hlt
    refine ⟨b, o, rfl, hlt, fun j z hj => ?_⟩
    rw [List.getElem?_take] at hj
    split at hj
    · have hjl : j < zs.length := by omega
      have := hcell j hjl
      rw [hadd] at this
      rw [this]
      rw [List.getElem?_eq_getElem hjl] at hj
      injection hj with hj
      simp [hjl, hj]
    · cases hj
theorem bytes_nil (W : World) : Bytes W W.heap.size (.slice none 0 0) 0 [] :=
  ⟨rfl, fun z hz => (by cases hz), none, 0, rfl, Nat.le_refl _, Nat.zero_le _, fun h => absurd h (by omega)⟩

end Go.Proofs.YtbjlkdenkmbepaaGreatDoor
