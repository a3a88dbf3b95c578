/- What is proved here: the contract of l20Buffers. No condition but that the code is a slice of bytes. -/
import Derived.Test.YtlejfmngpbcdhaaDrawC
import Derived.Test.YtlejfmngpbcdhaaChg5
namespace Go.Proofs.Ytlejfmngpbcdhaa
open Go.RowKit

/-- few and small files. -/
def Sm (N : Nat) (bs : List Bf) : Prop := bs.length ≤ N ∧ ∀ b ∈ bs, b.name.length ≤ 130 ∧ b.body.length ≤ 130 ∧ b.saved.length ≤ 130
theorem Sm.len {N : Nat} {bs : List Bf} (h : Sm N bs) : ∀ b ∈ bs, b.name.length ≤ maxLen ∧ b.body.length ≤ maxLen ∧ b.saved.length ≤ maxLen := fun b hb => by
  have := h.2 b hb
  unfold maxLen
  omega
theorem Sm.nil (N : Nat) : Sm N [] := ⟨Nat.zero_le _, fun b hb => by cases hb⟩
theorem Sm.more {N M : Nat} {bs : List Bf} (h : Sm N bs) (hn : N ≤ M) : Sm M bs := ⟨Nat.le_trans h.1 hn, h.2⟩
theorem Sm.snoc {N : Nat} {bs : List Bf} (h : Sm N bs) (b : Bf) (hb : b.name.length ≤ 130 ∧ b.body.length ≤ 130 ∧ b.saved.length ≤ 130) : Sm (N + 1) (bs ++ [b]) :=
  ⟨by rw [List.length_append]; have := h.1; simp; omega, fun x hx => by
    rw [List.mem_append, List.mem_singleton] at hx
    rcases hx with hx | rfl
    · exact h.2 x hx
    · exact hb⟩
theorem Sm.ob {N k : Nat} {bs : List Bf} {nm s : List UInt8} (h : Sm N bs) (hn : nm.length ≤ k) (hs : s.length ≤ 130) (hk : k ≤ 130 := by decide) : Sm (N + 1) (obOut bs nm s) := by
  unfold obOut
  split
  · exact h.snoc _ ⟨by simp; omega, hs, hs⟩
  · split
    · exact h.more (Nat.le_succ _)
    · exact Sm.nil _
theorem apTo_len {s : List UInt8} {a c : Int} {p : List UInt8} (hs : s.length ≤ 130) : (apTo s a c p).length ≤ 130 := by
  unfold apTo
  split
  · rename_i h
    have hk := h
    unfold chOk at hk
    simp only [Bool.and_eq_true] at hk
    have := tv_len (show tv (chTo s a c p) = true by rw [chTo_tv p hk.1.1.1 hk.1.1.2]; exact h)
    omega
  · split
    · exact hs
    · simp
theorem Sm.cg {N : Nat} {bs : List Bf} {nm : List UInt8} (h : Sm N bs) (a c : Int) (p : List UInt8) (_hp : p.length ≤ 260) : Sm N (cgOut bs nm a c p) := by
  unfold cgOut
  split
  · unfold cgOne
    split
    · rename_i b hb
      have hm := List.mem_of_getElem? hb
      refine ⟨by rw [List.length_set]; exact h.1, fun x hx => ?_⟩
      rcases List.mem_or_eq_of_mem_set hx with hx | rfl
      · exact h.2 x hx
      · have := h.2 b hm
        exact ⟨this.1, apTo_len this.2.1, this.2.2⟩
    · exact h
  · split
    · exact h
    · exact Sm.nil _

theorem Sm.sv {N : Nat} {bs : List Bf} (h : Sm N bs) (nm : List UInt8) : Sm (N + 1) (svOut bs nm) := by
  refine Sm.more ?_ (Nat.le_succ N)
  unfold svOut
  split
  · split
    · unfold svOne
      split
      · rename_i b hb
        have hm := List.mem_of_getElem? hb
        refine ⟨by rw [List.length_set]; exact h.1, fun x hx => ?_⟩
        rcases List.mem_or_eq_of_mem_set hx with hx | rfl
        · exact h.2 x hx
        · have := h.2 b hm
          exact ⟨this.1, this.2.1, this.2.1⟩
      · exact h
    · exact h
  · exact Sm.nil _
theorem Sm.cl {N : Nat} {bs : List Bf} (h : Sm N bs) (nm : List UInt8) : Sm N (clOut bs nm) := by
  unfold clOut
  split
  · unfold outK
    refine ⟨by have := h.1; simp; omega, fun b hb => ?_⟩
    rw [List.mem_append] at hb
    rcases hb with hb | hb
    · exact h.2 b (List.mem_of_mem_take hb)
    · exact h.2 b (List.mem_of_mem_drop hb)
  · split
    · exact h
    · exact Sm.nil _

def isChg (v : Value) : Prop := ∃ (a c : Int) (t : List UInt8), v = .agg #[.int .i64 a, .int .i64 c, S t] ∧ t.length ≤ 260
def tBool (L : List Nat) : Ty (RS L) := tOf L fun v => ∃ b, v = .bool b
def tBufs {g base : Nat} (hg : g < base) (N : Nat) : Ty (RS [g]) := ⟨fun v w => ∃ bs, Own w base 37 3 v bs.length (bs.flatMap bfC) ∧ Sm N bs, fun _ _ _ hR ⟨bs, h, h2⟩ => ⟨bs, gup_own h hR.to_grown hg, h2⟩⟩
def tBufsOk {g base : Nat} (hg : g < base) (N : Nat) : Ty (RS [g]) := ⟨fun v w => ∃ u ok bs, v = .tuple #[u, .bool ok] ∧ Own w base 37 3 u bs.length (bs.flatMap bfC) ∧ Sm N bs, fun _ _ _ hR ⟨u, ok, bs, hv, h, h2⟩ => ⟨u, ok, bs, hv, gup_own h hR.to_grown hg, h2⟩⟩

def BufsPost (g n : Nat) (zs : List Int) (p : Nat) (w : World) (e : Ending) (w' : World) : Prop :=
  ∃ v bs, e = .returned v ∧ Own w' w.heap.size 37 3 v bs.length (bs.flatMap bfC) ∧ Sm 8 bs ∧ (∃ q, q ≤ p + 10000 ∧ Rdr w' g n zs q) ∧ w.grownBy w' (some g)

set_option maxRecDepth 100000 in
set_option maxHeartbeats 4000000 in
theorem l20Buffers_any (g n : Nat) (zs : List Int) (p : Nat) (m : Int) (w : World) (hr : Rdr w g n zs p) (hp : p < 100000000) :
    Calls Try.prog 44 #[.pointer (some ⟨g, 0, none⟩), .int .i64 m] w (BufsPost g n zs p w) := by
  have hgB := hr.lt
  have hW := World.grownBy.refl w (some g)
  obtain ⟨i0, hi, hz0, hz1, hz2⟩ := info_parts buf_info
  go_enter Try.func44, Try.ntmps44
  go_wp2_with fail
  refine (pick_any _ _ _ _ _ _ (hr.up (by (repeat (first | exact Below.refl _ _ | assumption | refine Below.drew ?_ | refine up_drewN ?_ _ | refine up_alloc ?_ _ | refine up_set ?_ _ _ (by first | exact Nat.le_refl _ | (simp; done) | (simp; omega) | omega) | refine up_trans ?_ (by assumption))))) (by omega)).mono ?_
  rintro e w1 ⟨x1, rfl, h1, h2, hr1, hb⟩
  have ho := gup_own (own_empty w w.heap.size (Nat.le_refl _)) hb hgB
  have hG : w.grownBy w1 (some g) := (by (repeat (first | exact World.grownBy.refl _ _ | assumption | refine gb_drew ?_ | refine gb_drewN ?_ _ | refine gb_alloc ?_ _ | refine gb_here ?_ rfl _ | refine gb_set ?_ _ _ (by first | exact Nat.le_refl _ | (simp; done) | (simp; omega) | omega) | refine gb_trans ?_ (by assumption) | refine gb_below ?_ (by assumption)))); have sw1 := hG.size; replace hW := gb_trans hW hG; clear hG
  have hx1 := h1 (by omega)
  clear hb hr h1 h2
  have HO := Lib.hid ho
  clear ho
  go_wp2_with fail
  go_loopw [5, 6] (fun v i wr => ∃ (v0 : Value) (k N q0 : Nat) (bs : List Bf), v0 = v ∧ k ≤ 4 ∧ i = .int .i64 k ∧ N + k ≤ 4 ∧ Sm N bs ∧ q0 + 2000 * k ≤ p + 9000 ∧ Rdr wr g n zs q0 ∧ w.grownBy wr (some g) ∧ Hid (Own wr w.heap.size 37 3 v bs.length (bs.flatMap bfC))) (fun _ i _ => (intOf i).toNat)
  case atStart =>
    obtain ⟨k1, rfl⟩ : ∃ k1 : Nat, x1 = k1 := ⟨x1.toNat, by omega⟩
    exact ⟨_, k1, 0, p + 1, [], rfl, by omega, rfl, by omega, Sm.nil _, by omega, hr1, hW, HO⟩
  case round =>
    obtain ⟨v, k, N, q0, bs, rfl, hk, rfl, hN, hsm, hq0, hrw, hWr, HOw⟩ := hrel
    clear hr1 hW HO
    have ho := HOw.out
    by_cases h0 : 0 < k
    · have i1 : (0 : Int) < (k : Int) := by omega
      have hsz := hWr.size
      clear ho
      go_wp2_with fail
      have ho := HOw.out
      --EVER{spec.l20Buffers;5;bufs5}
      refine wp_region_ever (R := RS [g]) (M := MR g n zs q0 30) [tEq _ (v), tRow _ (isS 4) 4, tEq _ (.pointer (some ⟨g, 0, none⟩)), tOf _ (isI (0) (3)), tPtr _ (isS 4), tOf _ (isS 4), tEq _ (.pointer (some ⟨g, 0, none⟩)), tOf _ (isS 130), tBufsOk hgB (N + 1), tBufsOk hgB (N + 1), tBufs hgB (N + 1), tBool _, tBufs hgB (N + 1)] (by kernel_rfl) (RS.refl _) (fun _ _ _ => RS.trans) (by kernel_rfl) (MR.drew ⟨q0, by omega, hrw⟩) ?_ ?_
      · refine ⟨?_, ?_, ?_, ?_, ?_, ?_, ?_, ?_, ?_, ?_, ?_, ?_, ?_, trivial⟩
        · intro k' w' ρ hk' hR hM hF
          replace hk' : k' < 13 := hk'
          obtain ⟨f0, -⟩ := hF
          replace f0 : ρ (.tmp 5) = v := f0
          exact ⟨RS.refl _ _, hM.next, f0⟩
        · intro k' w' ρ hk' hR hM hF
          replace hk' : k' < 13 := hk'
          obtain ⟨f0, f1, f2, f3, -⟩ := hF
          replace f0 : ρ (.const (.string ⟨#[97]⟩)) = .string ⟨#[97]⟩ := f0
          replace f1 : ρ (.const (.string ⟨#[98]⟩)) = .string ⟨#[98]⟩ := f1
          replace f2 : ρ (.const (.string ⟨#[109, 97, 105, 110]⟩)) = .string ⟨#[109, 97, 105, 110]⟩ := f2
          replace f3 : ρ (.const (.string ⟨#[120, 49]⟩)) = .string ⟨#[120, 49]⟩ := f3
          have bnew : w'.heap.size ∉ [g] := (by have := hR.size; simp at this ⊢; omega)
          refine good_of fun K hK => ?_
          go_simp
          refine hK _ _ ((RS.refl _ _).alloc _) ((hM.alloc _).next) ⟨w'.heap.size, rfl, bnew, by simp, fun j hj => row_new w' _ _ _ ?_ j hj⟩
          intro x hx; simp only [List.mem_cons, List.not_mem_nil, or_false] at hx
          rcases hx with rfl | rfl | rfl | rfl
          · exact ⟨[97], rfl, by decide⟩
          · exact ⟨[98], rfl, by decide⟩
          · exact ⟨[109, 97, 105, 110], rfl, by decide⟩
          · exact ⟨[120, 49], rfl, by decide⟩
        · intro k' w' ρ hk' hR hM hF
          replace hk' : k' < 13 := hk'
          obtain ⟨f0, -⟩ := hF
          replace f0 : ρ (.tmp 0) = .pointer (some ⟨g, 0, none⟩) := f0
          exact ⟨RS.refl _ _, hM.next, f0⟩
        · intro k' w' ρ hk' hR hM hF
          replace hk' : k' < 13 := hk'
          obtain ⟨f0, f1, f2, -⟩ := hF
          replace f0 : ρ (.func _) = .func (.func _) #[] #[] := f0
          replace f1 : ρ (.tmp 18) = .pointer (some ⟨g, 0, none⟩) := f1
          replace f2 : ρ (.const (.int .i64 4)) = .int .i64 4 := f2
          refine good_of fun K hK => ?_
          obtain ⟨q, hq, hr⟩ := hM; go_simp; refine (pick_any _ _ _ _ _ _ hr (by omega)).mono ?_; rintro e w4 ⟨x, rfl, h1, -, hr4, hb⟩; have hx := h1 (by omega); exact ⟨_, rfl, hK _ _ ((RS.refl _ _).grown hb (by simp)) ⟨q + 1, by rw [Nat.mul_add]; omega, hr4⟩ ⟨x, rfl, by omega, by omega⟩⟩
        · intro k' w' ρ hk' hR hM hF
          replace hk' : k' < 13 := hk'
          obtain ⟨f0, f1, -⟩ := hF
          obtain ⟨b0, f0, bn0, bz0, bc0⟩ := f0
          replace f0 : ρ (.tmp 17) = .slice (some ⟨b0, 0, none⟩) 4 4 := f0
          obtain ⟨x1, f1, lo1, hi1⟩ := f1
          replace f1 : ρ (.tmp 19) = .int .i64 x1 := f1
          obtain ⟨u, hu, he⟩ := bc0 x1.toNat (by omega)
          clear bc0
          have ix0 : 0 ≤ x1 := by omega
          have ix1 : x1 < 4 := by omega
          refine good_of fun K hK => ?_
          go_simp
          exact hK _ _ (RS.refl _ _) (hM.next) ⟨b0, _, rfl, bn0, bz0, u, hu, he⟩
        · intro k' w' ρ hk' hR hM hF
          replace hk' : k' < 13 := hk'
          obtain ⟨f0, -⟩ := hF
          obtain ⟨b0, o0, f0, bn0, bz0, u0, bc0, be0⟩ := f0
          replace f0 : ρ (.tmp 20) = .pointer (some ⟨b0, o0, none⟩) := f0
          refine good_of fun K hK => ?_
          go_simp
          exact hK _ _ (RS.refl _ _) (hM.next) be0
        · intro k' w' ρ hk' hR hM hF
          replace hk' : k' < 13 := hk'
          obtain ⟨f0, -⟩ := hF
          replace f0 : ρ (.tmp 0) = .pointer (some ⟨g, 0, none⟩) := f0
          exact ⟨RS.refl _ _, hM.next, f0⟩
        · intro k' w' ρ hk' hR hM hF
          replace hk' : k' < 13 := hk'
          obtain ⟨f0, f1, f2, -⟩ := hF
          replace f0 : ρ (.func _) = .func (.func _) #[] #[] := f0
          replace f1 : ρ (.tmp 22) = .pointer (some ⟨g, 0, none⟩) := f1
          replace f2 : ρ (.const (.int .i64 0)) = .int .i64 0 := f2
          refine good_of fun K hK => ?_
          obtain ⟨q, hq, hr⟩ := hM; go_simp; refine (l20Text_any _ _ _ _ _ _ hr (by omega)).mono ?_; rintro e w4 ⟨t, rfl, ht, ⟨q4, hq4, hr4⟩, hb⟩; exact ⟨_, rfl, hK _ _ ((RS.refl _ _).grown hb (by simp)) ⟨q4, by rw [Nat.mul_add]; omega, hr4⟩ ⟨t, rfl, ht⟩⟩
        · intro k' w' ρ hk' hR hM hF
          replace hk' : k' < 13 := hk'
          obtain ⟨f0, f1, f2, f3, -⟩ := hF
          replace f0 : ρ (.func _) = .func (.func _) #[] #[] := f0
          replace f1 : ρ (.tmp 16) = v := f1
          refine good_of fun K hK => ?_
          obtain ⟨nm, f2, hnm⟩ := f2; obtain ⟨s, f3, hs⟩ := f3; replace f2 : ρ (.tmp 21) = S nm := f2; replace f3 : ρ (.tmp 23) = S s := f3; obtain ⟨q, hq, hr⟩ := hM; have Q := Lib.hid (gup_own ho hR.of_drew.to_grown hgB); clear ho; go_simp; refine (specOpenBuffer_any _ bs nm s _ ⟨RdL.of_own Q.out, hsm.len⟩ (by unfold maxLen; omega) (by unfold maxLen; omega)).mono ?_; rintro e w4 ⟨v0, rfl, ho0, hb⟩; exact ⟨_, rfl, hK _ _ ((RS.refl _ _).below hb) ⟨q, by rw [Nat.mul_add]; omega, hr.up hb⟩ ⟨v0, _, _, rfl, own_base ho0 (by have := hR.size; simp at this; omega), hsm.ob hnm hs⟩⟩
        · intro k' w' ρ hk' hR hM hF
          replace hk' : k' < 13 := hk'
          obtain ⟨f0, -⟩ := hF
          exact ⟨RS.refl _ _, hM.next, f0⟩
        · intro k' w' ρ hk' hR hM hF
          replace hk' : k' < 13 := hk'
          obtain ⟨f0, -⟩ := hF
          refine good_of fun K hK => ?_
          obtain ⟨u, ok, bs', f0, qq0, q1⟩ := f0; replace f0 : ρ (.tmp 15) = .tuple #[u, .bool ok] := f0; have Q0 := Lib.hid qq0; clear qq0 ho; go_simp; exact hK _ _ (RS.refl _ _) hM.next ⟨bs', Q0.out, q1⟩
        · intro k' w' ρ hk' hR hM hF
          replace hk' : k' < 13 := hk'
          obtain ⟨f0, -⟩ := hF
          refine good_of fun K hK => ?_
          obtain ⟨u, ok, bs', f0, -, -⟩ := f0; replace f0 : ρ (.tmp 15) = .tuple #[u, .bool ok] := f0; clear ho; go_simp; exact hK _ _ (RS.refl _ _) hM.next ⟨ok, rfl⟩
        · intro k' w' ρ hk' hR hM hF
          replace hk' : k' < 13 := hk'
          obtain ⟨f0, -⟩ := hF
          exact ⟨RS.refl _ _, hM.next, f0⟩
      · intro w' hR hM
        rintro _ rfl
        rintro _ ⟨_, rfl, -, -, -⟩
        rintro _ rfl
        rintro _ ⟨v3, rfl, lo3, hi3⟩
        rintro _ ⟨_, _, rfl, -, -, -⟩
        rintro _ ⟨v5, rfl, hi5⟩
        rintro _ rfl
        rintro _ ⟨v7, rfl, hi7⟩
        rintro _ ⟨_, _, _, rfl, -, -⟩
        rintro _ ⟨_, _, _, rfl, -, -⟩
        rintro _ -
        rintro _ ⟨_, rfl⟩
        rintro v2 ⟨bs2, ho2, hs2⟩
      --END
        dsimp only [EndAll, Act.put]
        obtain ⟨w5, rfl⟩ : ∃ z, z = w' := ⟨_, rfl⟩
        obtain ⟨q5, hq5, hr5⟩ := hM
        replace hq5 : q5 ≤ q0 + 30 * 13 := hq5
        have hW5 := gb_trans hWr hR.of_drew.to_grown
        have HO5 := Lib.hid ho2
        clear hR ho ho2 HOw hWr hrw
        obtain ⟨A5, c5, hv5, hml5, -⟩ := (RdL.of_own HO5.out).form
        subst hv5
        have hb5 := hs2.1
        have hm5 : bs2.length ≤ 9223372036854775807 := by omega
        by_cases hl0 : bs2.length = 0
        · have hl1 : decide (0 < bs2.length) = false := decide_eq_false (by omega)
          have hl2 : decide ((0 : Int) < bs2.length) = false := decide_eq_false (by omega)
          have hl3 : ¬ (0 < bs2.length) := by omega
          clear hl0
          go_wp2_with fail
          go_roundw
          case rel =>
            refine ⟨_, k - 1, N + 1, q5, bs2, rfl, by omega, ?_, by omega, hs2, by omega, hr5, hW5, HO5⟩
            rw [show ((k - 1 : Nat) : Int) = (k : Int) - 1 by omega]
          case measure => simp [intOf]; omega
        · have hl1 : decide (0 < bs2.length) = true := decide_eq_true (by omega)
          have hl2 : decide ((0 : Int) < bs2.length) = true := decide_eq_true (by omega)
          have hl3 : 0 < bs2.length := by omega
          clear hl0
          go_wp2_with fail
          refine (pick_any _ _ _ _ _ _ hr5 (by omega)).mono ?_
          rintro e w6 ⟨y, rfl, h1, h2, hr6, hb⟩
          have hy := h1 (by omega)
          have HO6 := Lib.hid (gup_own HO5.out hb hgB)
          replace hW5 := gb_trans hW5 hb
          clear hb h1 h2 hr5 HO5
          by_cases hy0 : y = 0
          · subst hy0
            go_wp2_with fail
            refine (pick_any _ _ _ _ _ _ hr6 (by omega)).mono ?_
            rintro e w7 ⟨y, rfl, h1, h2, hr7, hb⟩
            have hy := h1 (by omega)
            have ho := gup_own HO6.out hb hgB
            replace hW5 := gb_trans hW5 hb
            clear hb h1 h2 hr6 HO6
            obtain ⟨j, rfl⟩ : ∃ j : Nat, y = j := ⟨y.toNat, by omega⟩
            have hj : j < bs2.length := by omega
            obtain ⟨b, cap, cur, hv, hbg, hh, hnc, hcm, hcs, htake⟩ : ∃ g cap cur, Value.slice A5 bs2.length c5 = .slice (some ⟨g, 0, none⟩) bs2.length cap ∧ _ := by
              rcases ho.2 with ⟨_, h0⟩ | ⟨g, cap, cur, hx, rest⟩
              · omega
              · exact ⟨g, cap, cur, hx, rest⟩
            injection hv with hv1 _ hv3
            subst hv1 hv3
            have bz : b < w7.heap.size := (ho.lt b rfl).2
            have bg : b ≠ g := by omega
            have cc := (RdB.cells ⟨RdL.of_own ho, hs2.len⟩ hj)
            obtain ⟨b', o', hA, hb', c0, c1, _⟩ := cc
            injection hA with hA
            injection hA with hA1 hA2
            subst hA1 hA2
            rw [Nat.zero_add] at c0 c1
            have hrw := hr7
            have hsm := hs2
            have i1' : (0 : Int) ≤ (j : Int) := by omega
            have i2' : (j : Int) < (bs2.length : Int) := by omega
            obtain ⟨q0', hq0'⟩ : ∃ z, z = q5 + 1 + 1 := ⟨_, rfl⟩
            rw [← hq0'] at hrw
            have HQ0 := Lib.hid hq0'
            have hqq : q0' ≤ q0 + 400 := by omega
            have hW7 := hW5.size
            clear hh hcs htake hb' hr7 hq0'
            have Ho := Lib.hid ho
            clear ho
            go_wp2_with fail
            have ho := Ho.out
            --EVER{spec.l20Buffers;8;bufs8}
            refine wp_region_ever (R := RS [g]) (M := MR g n zs q0' 50) [tEq _ (.slice (some ⟨b, 0, none⟩) bs2.length c5), tEq _ (.slice (some ⟨b, 0, none⟩) bs2.length c5), tEq _ (.int .i64 j), tEq _ (.pointer (some ⟨b, j * 3, none⟩)), tEq _ (.pointer (some ⟨b, j * 3, none⟩)), tEq _ (S bs2[j].name), tEq _ (.pointer (some ⟨g, 0, none⟩)), tEq _ (.slice (some ⟨b, 0, none⟩) bs2.length c5), tEq _ (.int .i64 j), tEq _ (.pointer (some ⟨b, j * 3, none⟩)), tEq _ (.pointer (some ⟨b, j * 3 + 1, none⟩)), tEq _ (S bs2[j].body), tOf _ isChg, tBufsOk hgB (N + 1), tBufsOk hgB (N + 1), tBufs hgB (N + 1), tBool _, tBufs hgB (N + 1)] (by kernel_rfl) (RS.refl _) (fun _ _ _ => RS.trans) (by kernel_rfl) (MR.drew ⟨q0', by omega, hrw⟩) ?_ ?_
            · refine ⟨?_, ?_, ?_, ?_, ?_, ?_, ?_, ?_, ?_, ?_, ?_, ?_, ?_, ?_, ?_, ?_, ?_, ?_, trivial⟩
              · intro k' w' ρ hk' hR hM hF
                replace hk' : k' < 18 := hk'
                obtain ⟨f0, -⟩ := hF
                replace f0 : ρ (.tmp 5) = .slice (some ⟨b, 0, none⟩) bs2.length c5 := f0
                exact ⟨RS.refl _ _, hM.next, f0⟩
              · intro k' w' ρ hk' hR hM hF
                replace hk' : k' < 18 := hk'
                obtain ⟨f0, -⟩ := hF
                replace f0 : ρ (.tmp 5) = .slice (some ⟨b, 0, none⟩) bs2.length c5 := f0
                exact ⟨RS.refl _ _, hM.next, f0⟩
              · intro k' w' ρ hk' hR hM hF
                replace hk' : k' < 18 := hk'
                obtain ⟨f0, -⟩ := hF
                replace f0 : ρ (.tmp 7) = .int .i64 j := f0
                exact ⟨RS.refl _ _, hM.next, f0⟩
              · intro k' w' ρ hk' hR hM hF
                replace hk' : k' < 18 := hk'
                obtain ⟨f0, f1, -⟩ := hF
                replace f0 : ρ (.tmp 41) = .slice (some ⟨b, 0, none⟩) bs2.length c5 := f0
                replace f1 : ρ (.tmp 42) = .int .i64 j := f1
                refine good_of fun K hK => ?_
                go_simp
                exact hK _ _ (RS.refl _ _) (hM.next) (rfl)
              · intro k' w' ρ hk' hR hM hF
                replace hk' : k' < 18 := hk'
                obtain ⟨f0, -⟩ := hF
                replace f0 : ρ (.tmp 43) = .pointer (some ⟨b, j * 3, none⟩) := f0
                refine good_of fun K hK => ?_
                go_simp
                exact hK _ _ (RS.refl _ _) (hM.next) (rfl)
              · intro k' w' ρ hk' hR hM hF
                replace hk' : k' < 18 := hk'
                obtain ⟨f0, -⟩ := hF
                replace f0 : ρ (.tmp 44) = .pointer (some ⟨b, j * 3, none⟩) := f0
                refine good_of fun K hK => ?_
                have z0 := (hR.of_drew.cell bz (by simpa using bg) (j * 3)).trans c0; go_simp; exact hK _ _ (RS.refl _ _) hM.next rfl
              · intro k' w' ρ hk' hR hM hF
                replace hk' : k' < 18 := hk'
                obtain ⟨f0, -⟩ := hF
                replace f0 : ρ (.tmp 0) = .pointer (some ⟨g, 0, none⟩) := f0
                exact ⟨RS.refl _ _, hM.next, f0⟩
              · intro k' w' ρ hk' hR hM hF
                replace hk' : k' < 18 := hk'
                obtain ⟨f0, -⟩ := hF
                replace f0 : ρ (.tmp 5) = .slice (some ⟨b, 0, none⟩) bs2.length c5 := f0
                exact ⟨RS.refl _ _, hM.next, f0⟩
              · intro k' w' ρ hk' hR hM hF
                replace hk' : k' < 18 := hk'
                obtain ⟨f0, -⟩ := hF
                replace f0 : ρ (.tmp 7) = .int .i64 j := f0
                exact ⟨RS.refl _ _, hM.next, f0⟩
              · intro k' w' ρ hk' hR hM hF
                replace hk' : k' < 18 := hk'
                obtain ⟨f0, f1, -⟩ := hF
                replace f0 : ρ (.tmp 47) = .slice (some ⟨b, 0, none⟩) bs2.length c5 := f0
                replace f1 : ρ (.tmp 48) = .int .i64 j := f1
                refine good_of fun K hK => ?_
                go_simp
                exact hK _ _ (RS.refl _ _) (hM.next) (rfl)
              · intro k' w' ρ hk' hR hM hF
                replace hk' : k' < 18 := hk'
                obtain ⟨f0, -⟩ := hF
                replace f0 : ρ (.tmp 49) = .pointer (some ⟨b, j * 3, none⟩) := f0
                refine good_of fun K hK => ?_
                go_simp
                exact hK _ _ (RS.refl _ _) (hM.next) (rfl)
              · intro k' w' ρ hk' hR hM hF
                replace hk' : k' < 18 := hk'
                obtain ⟨f0, -⟩ := hF
                replace f0 : ρ (.tmp 50) = .pointer (some ⟨b, j * 3 + 1, none⟩) := f0
                refine good_of fun K hK => ?_
                have z0 := (hR.of_drew.cell bz (by simpa using bg) (j * 3 + 1)).trans c1; go_simp; exact hK _ _ (RS.refl _ _) hM.next rfl
              · intro k' w' ρ hk' hR hM hF
                replace hk' : k' < 18 := hk'
                obtain ⟨f0, f1, f2, f3, -⟩ := hF
                replace f0 : ρ (.func _) = .func (.func _) #[] #[] := f0
                replace f1 : ρ (.tmp 46) = .pointer (some ⟨g, 0, none⟩) := f1
                replace f2 : ρ (.tmp 51) = S bs2[j].body := f2
                replace f3 : ρ (.const (.int .i64 0)) = .int .i64 0 := f3
                refine good_of fun K hK => ?_
                obtain ⟨q, hq, hr⟩ := hM; go_simp; refine (l20Change_any _ _ _ _ _ bs2[j].body _ hr (by omega) (hsm.2 _ (List.getElem_mem hj)).2.1).mono ?_; rintro e w4 ⟨a, c, t, rfl, ht, ⟨q4, hq4, hr4⟩, hb⟩; exact ⟨_, rfl, hK _ _ ((RS.refl _ _).grown hb (by simp)) ⟨q4, by rw [Nat.mul_add]; omega, hr4⟩ ⟨a, c, t, rfl, ht⟩⟩
              · intro k' w' ρ hk' hR hM hF
                replace hk' : k' < 18 := hk'
                obtain ⟨f0, f1, f2, f3, -⟩ := hF
                replace f0 : ρ (.func _) = .func (.func _) #[] #[] := f0
                replace f1 : ρ (.tmp 40) = .slice (some ⟨b, 0, none⟩) bs2.length c5 := f1
                replace f2 : ρ (.tmp 45) = S bs2[j].name := f2
                refine good_of fun K hK => ?_
                obtain ⟨a, c, t, f3, ht⟩ := f3; replace f3 : ρ (.tmp 52) = .agg #[.int .i64 a, .int .i64 c, S t] := f3; obtain ⟨q, hq, hr⟩ := hM; have Q := Lib.hid (gup_own ho hR.of_drew.to_grown hgB); clear ho; go_simp; refine (specChangeBuffer_any _ bs2 bs2[j].name a c t _ ⟨RdL.of_own Q.out, hsm.len⟩ (by omega)).mono ?_; rintro e w4 ⟨v0, rfl, ho0, hb⟩; exact ⟨_, rfl, hK _ _ ((RS.refl _ _).below hb) ⟨q, by rw [Nat.mul_add]; omega, hr.up hb⟩ ⟨v0, _, _, rfl, own_base ho0 (by have := hR.size; simp at this; omega), hsm.cg _ _ _ ht⟩⟩
              · intro k' w' ρ hk' hR hM hF
                replace hk' : k' < 18 := hk'
                obtain ⟨f0, -⟩ := hF
                exact ⟨RS.refl _ _, hM.next, f0⟩
              · intro k' w' ρ hk' hR hM hF
                replace hk' : k' < 18 := hk'
                obtain ⟨f0, -⟩ := hF
                refine good_of fun K hK => ?_
                obtain ⟨u, ok, bs', f0, qq0, q1⟩ := f0; replace f0 : ρ (.tmp 39) = .tuple #[u, .bool ok] := f0; have Q0 := Lib.hid qq0; clear qq0 ho; go_simp; exact hK _ _ (RS.refl _ _) hM.next ⟨bs', Q0.out, q1⟩
              · intro k' w' ρ hk' hR hM hF
                replace hk' : k' < 18 := hk'
                obtain ⟨f0, -⟩ := hF
                refine good_of fun K hK => ?_
                obtain ⟨u, ok, bs', f0, -, -⟩ := f0; replace f0 : ρ (.tmp 39) = .tuple #[u, .bool ok] := f0; clear ho; go_simp; exact hK _ _ (RS.refl _ _) hM.next ⟨ok, rfl⟩
              · intro k' w' ρ hk' hR hM hF
                replace hk' : k' < 18 := hk'
                obtain ⟨f0, -⟩ := hF
                exact ⟨RS.refl _ _, hM.next, f0⟩
            · intro w' hR hM
              rintro _ rfl
              rintro _ rfl
              rintro _ rfl
              rintro _ rfl
              rintro _ rfl
              rintro _ rfl
              rintro _ rfl
              rintro _ rfl
              rintro _ rfl
              rintro _ rfl
              rintro _ rfl
              rintro _ rfl
              rintro _ ⟨_, _, _, rfl, -⟩
              rintro _ ⟨_, _, _, rfl, -, -⟩
              rintro _ ⟨_, _, _, rfl, -, -⟩
              rintro _ -
              rintro _ ⟨_, rfl⟩
              rintro v3 ⟨bs3, ho2, hs3⟩
            --END
              dsimp only [EndAll, Act.put]
              obtain ⟨w8, rfl⟩ : ∃ z, z = w' := ⟨_, rfl⟩
              obtain ⟨q8, hq8, hr8⟩ := hM
              replace hq8 : q8 ≤ q0' + 50 * 18 := hq8
              have hW8 := gb_trans hW5 hR.of_drew.to_grown
              have HO8 := Lib.hid ho2
              clear hR ho ho2 Ho hW5 hrw c0 c1
              go_wp2_with fail
              go_roundw
              case rel =>
                refine ⟨_, k - 1, N + 1, q8, bs3, rfl, by omega, ?_, by omega, hs3, by omega, hr8, hW8, HO8⟩
                rw [show ((k - 1 : Nat) : Int) = (k : Int) - 1 by omega]
              case measure => simp [intOf]; omega
          · have hy1 : ((y : Int) == 0) = false := by simpa using hy0
            clear hy0
            go_wp2_with fail
            go_roundw
            case rel =>
              refine ⟨_, k - 1, N + 1, q5 + 1, bs2, rfl, by omega, ?_, by omega, hs2, by omega, hr6, hW5, HO6⟩
              rw [show ((k - 1 : Nat) : Int) = (k : Int) - 1 by omega]
            case measure => simp [intOf]; omega
    · obtain rfl : k = 0 := by omega
      have hb4 := hsm.1
      have hsz := hWr.size
      clear ho
      go_wp2_with fail
      refine (odd_any _ _ _ _ _ _ hrw (by omega)).mono ?_
      rintro e w2 ⟨x2, rfl, ⟨q2, hq2, hr2⟩, hb⟩
      have HO2 := Lib.hid (gup_own HOw.out hb hgB)
      have hW2 := gb_trans hWr hb
      clear hb hrw hWr HOw
      rcases x2 with _ | _
      · go_wp2_with fail
        go_ret
        exact ⟨_, bs, rfl, HO2.out, hsm.more (by omega), ⟨q2, by omega, hr2⟩, hW2⟩
      · go_wp2_with fail
        refine (pick_any _ _ _ _ _ _ hr2 (by omega)).mono ?_
        rintro e w3 ⟨x3, rfl, h1, h2, hr3, hb⟩
        have HO3 := Lib.hid (gup_own HO2.out hb hgB)
        have hx3 := h1 (by omega)
        have hW3 := gb_trans hW2 hb
        have sw3 := hW3.size
        clear hb hr2 h1 h2 hW2 HO2
        by_cases e0 : x3 = 0
        · subst e0
          have ho3 := HO3.out
          go_wp2_with fail
          refine (pick_any _ _ _ _ _ _ (hr3.up (by (repeat (first | exact Below.refl _ _ | assumption | refine Below.drew ?_ | refine up_drewN ?_ _ | refine up_alloc ?_ _ | refine up_set ?_ _ _ (by first | exact Nat.le_refl _ | (simp; done) | (simp; omega) | omega) | refine up_trans ?_ (by assumption))))) (by omega)).mono ?_
          rintro e w4 ⟨x4, rfl, h1, h2, hr4, hb⟩
          have hx4 := h1 (by omega)
          have lc : ∀ o, w4.cell? ⟨w3.heap.size, o, none⟩ = #[S [], S [97, 32, 98], S [97, 98, 99, 100, 101, 102, 103, 104, 105, 106, 107, 108, 109]][o]? := gup_c hb (by simp <;> omega) (by omega) (fun o => by simp [go_sem]); have lf : ∀ o, w4.frozen? ⟨w3.heap.size, o, none⟩ = false := gup_f hb (by simp <;> omega) (by omega) (fun o => by simp [go_sem]); have lz : w3.heap.size < w4.heap.size := (by have := hb.size; (try simp at this); omega); have ly := lz
          have HO4 := Lib.hid (gup_own (ho3.alloc _) hb hgB)
          replace hW3 := gb_trans (gb_alloc hW3 _) hb
          have sw4 := hW3.size
          obtain ⟨nm, hnm, hnl⟩ : ∃ nm : List UInt8, (#[S [], S [97, 32, 98], S [97, 98, 99, 100, 101, 102, 103, 104, 105, 106, 107, 108, 109]] : Array Value)[x4.toNat]? = some (S nm) ∧ nm.length ≤ 13 := by
            rcases (show x4 = 0 ∨ x4 = 1 ∨ x4 = 2 by omega) with rfl | rfl | rfl
            all_goals exact ⟨_, rfl, by decide⟩
          have lc1 := (lc x4.toNat).trans hnm
          have hr3 := hr4
          clear hb h1 h2 lc lf ly hnm ho3 HO3
          go_wp2_with (at_builtin; refine wpList_append_own _ rfl _ _ 32 rfl w.heap.size 37 i0 _ 3 48 Try.underlying32 hi hz0 hz1 hz2 rfl (by decide) _ _ _ rfl (HO4.out.alloc _) ⟨w4.heap.size, 0, none⟩ 1 1 [S nm, S [], S []] rfl rfl (cells_new _ _ _) (by intro u hu; simp at hu; first | (rcases hu with rfl | rfl | rfl <;> rfl) | (rcases hu with rfl | rfl <;> rfl)) (by unfold maxLen; omega) (by omega) (by simp; omega) ?_; intro v5 w5 how5 hgr5 _)
          have hW5 := gb_own (gb_alloc hW3 (.cells #[S nm, S [], S []] 37)) hgr5 (own_lt HO4.out (Nat.le_refl _))
          have hr5 := (hr3.alloc (.cells #[S nm, S [], S []] 37)).grown hgr5 (fun k hk => Nat.lt_of_lt_of_le hgB (own_lt HO4.out (Nat.le_refl _) k hk))
          go_ret
          exact ⟨_, bs ++ [⟨nm, [], []⟩], rfl, by rw [List.flatMap_append, List.length_append]; exact how5, (hsm.snoc ⟨nm, [], []⟩ ⟨by simp; omega, by simp, by simp⟩).more (by omega), ⟨q2 + 1 + 1, by omega, hr5⟩, hW5⟩
        · by_cases e1 : x3 = 1
          · subst e1
            have ho3 := HO3.out
            go_wp2_with (at_builtin; refine wpList_append_own _ rfl _ _ 32 rfl w.heap.size 37 i0 _ 3 48 Try.underlying32 hi hz0 hz1 hz2 rfl (by decide) _ _ _ rfl (ho3.alloc _) ⟨w3.heap.size, 0, none⟩ 2 2 [S [122], S [], S [], S [122], S [], S []] rfl rfl (cells_new _ _ _) (by intro u hu; simp at hu; rcases hu with rfl | rfl | rfl | rfl <;> rfl) (by unfold maxLen; omega) (by omega) (by simp; omega) ?_; intro v5 w5 how5 hgr5 _)
            have hW5 := gb_own (gb_alloc hW3 (.cells #[S [122], S [], S [], S [122], S [], S []] 37)) hgr5 (own_lt HO3.out (Nat.le_refl _))
            have hr5 := (hr3.alloc (.cells #[S [122], S [], S [], S [122], S [], S []] 37)).grown hgr5 (fun k hk => Nat.lt_of_lt_of_le hgB (own_lt HO3.out (Nat.le_refl _) k hk))
            go_ret
            exact ⟨_, bs ++ [⟨[122], [], []⟩, ⟨[122], [], []⟩], rfl, by rw [List.flatMap_append, List.length_append]; exact how5, (by have := (hsm.snoc ⟨[122], [], []⟩ (by decide)).snoc ⟨[122], [], []⟩ (by decide); rw [List.append_assoc] at this; exact this.more (by omega)), ⟨q2 + 1, by omega, hr5⟩, hW5⟩
          · have hx5 : x3 = 2 := by omega
            subst hx5
            clear e0 e1
            have ho3 := HO3.out
            go_wp2_with (at_builtin; refine wpList_append_own _ rfl _ _ 32 rfl w.heap.size 37 i0 _ 3 48 Try.underlying32 hi hz0 hz1 hz2 rfl (by decide) _ _ _ rfl (HO3.out.alloc _) ⟨w3.heap.size, 0, none⟩ 1 1 [S [122], S [], S [9]] rfl rfl (cells_new _ _ _) (by intro u hu; simp at hu; first | (rcases hu with rfl | rfl | rfl <;> rfl) | (rcases hu with rfl | rfl <;> rfl)) (by unfold maxLen; omega) (by omega) (by simp; omega) ?_; intro v5 w5 how5 hgr5 _)
            have hW5 := gb_own (gb_alloc hW3 (.cells #[S [122], S [], S [9]] 37)) hgr5 (own_lt HO3.out (Nat.le_refl _))
            have hr5 := (hr3.alloc (.cells #[S [122], S [], S [9]] 37)).grown hgr5 (fun k hk => Nat.lt_of_lt_of_le hgB (own_lt HO3.out (Nat.le_refl _) k hk))
            go_ret
            exact ⟨_, bs ++ [⟨[122], [], [9]⟩], rfl, by rw [List.flatMap_append, List.length_append]; exact how5, (hsm.snoc ⟨[122], [], [9]⟩ (by decide)).more (by omega), ⟨q2 + 1, by omega, hr5⟩, hW5⟩

end Go.Proofs.Ytlejfmngpbcdhaa
