/- What is proved here: the walk of the law FnExactChangeBuffer. No condition. -/
import Derived.Test.YtaldlnbgloplbaaChg5
import Derived.Test.YtaldlnbgloplbaaSame2a
namespace Go.Proofs.Ytaldlnbgloplbaa
open Go.RowKit
set_option linter.unusedVariables false

theorem ho_ne {w : World} {base size n x B : Nat} {e : TypeId} {v : Value} {xs : List Value} (h : Own w base e size v n xs) (hx : x < B) (hb : B ≤ base := by omega) : v.ownBlock ≠ some x := fun he => by
  have := (h.lt x he).1; omega
theorem gk_c {a b : World} {A : Array Value} {x : Nat} {row : Option Nat} (h : a.grownBy b row) (hz : x < a.heap.size) (hn : row ≠ some x) (hc : ∀ o, a.cell? ⟨x, o, none⟩ = A[o]?) : ∀ o, b.cell? ⟨x, o, none⟩ = A[o]? :=
  fun o => (World.cell?_of_block (a := ⟨x, o, none⟩) (h.block x hz (fun e => hn e.symm))).trans (hc o)
theorem gk_f {a b : World} {x : Nat} {row : Option Nat} (h : a.grownBy b row) (hz : x < a.heap.size) (hn : row ≠ some x) (hc : ∀ o, a.frozen? ⟨x, o, none⟩ = false) : ∀ o, b.frozen? ⟨x, o, none⟩ = false :=
  fun o => (World.frozen?_of_block (a := ⟨x, o, none⟩) (h.block x hz (fun e => hn e.symm))).trans (hc o)

set_option maxRecDepth 100000 in
set_option maxHeartbeats 2000000 in
theorem exactChangeBuffer_walk (v : Value) (bs : List Bf) (nm : List UInt8) (hnm : nm.length ≤ maxLen) (a c : Int) (p : List UInt8) (hp : p.length ≤ maxLen) (w : World) (h : RdB w v bs) :
    Calls Try.prog 9 #[v, .string ⟨nm.toArray⟩, chV a c p] w fun e w' => e = .returned (.bool true) ∧ Below w.heap.size w w' := by
  have hW := Below.refl w.heap.size w
  have hL := cgOut_len bs nm a c p
  unfold chV
  obtain ⟨A, cp, rfl, hm, _⟩ := h.1.form
  by_cases l1 : 1048576 < nm.length
  · go_enter Try.func9, Try.ntmps9
    go_wp2_with fail
    go_ret
    exact ⟨rfl, by (repeat (first | exact Below.refl _ _ | assumption | refine Below.drew ?_ | refine up_drewN ?_ _ | refine up_alloc ?_ _ | refine up_set ?_ _ _ (by first | exact Nat.le_refl _ | (simp; done) | (simp; omega) | omega) | refine up_trans ?_ (by assumption)))⟩
  go_enter Try.func9, Try.ntmps9
  go_wp2_with fail
  refine (szBufferS_any _ bs _ _ (h.up (by (repeat (first | exact Below.refl _ _ | assumption | refine Below.drew ?_ | refine up_drewN ?_ _ | refine up_alloc ?_ _ | refine up_set ?_ _ _ (by first | exact Nat.le_refl _ | (simp; done) | (simp; omega) | omega) | refine up_trans ?_ (by assumption))))) (by omega) (by omega)).mono ?_
  rintro e w1 ⟨r, rfl, hr1, hr2, hb⟩
  have hB : Below w.heap.size w w1 := (by (repeat (first | exact Below.refl _ _ | assumption | refine Below.drew ?_ | refine up_drewN ?_ _ | refine up_alloc ?_ _ | refine up_set ?_ _ _ (by first | exact Nat.le_refl _ | (simp; done) | (simp; omega) | omega) | refine up_trans ?_ (by assumption)))); have sw1 := hB.size; replace hW := up_trans hW hB; clear hB
  have xc : ∀ o, w1.cell? ⟨w.heap.size, o, none⟩ = #[.int .i64 a, .int .i64 c, S p][o]? := (fun o => (hb.cell (p := ⟨w.heap.size, o, none⟩) (by simp <;> omega)).trans (by simp [go_sem])); have xf : ∀ o, w1.frozen? ⟨w.heap.size, o, none⟩ = false := (fun o => (hb.frozen (p := ⟨w.heap.size, o, none⟩) (by simp <;> omega)).trans (by simp [go_sem])); have xz : w.heap.size < w1.heap.size := (by have := hb.size; (try simp at this); omega); have xy := xz
  clear hb
  by_cases hr0 : r < 0
  · clear hr2
    go_wp2_with fail
    go_ret
    exact ⟨rfl, hW⟩
  have hs1 := (hr2 (by omega)).1
  clear hr2
  go_wp2_with fail
  refine (szChange_any a c p _ _ hp (by omega) (by omega)).mono ?_
  rintro e w2 ⟨rfl, hb⟩
  have hB : Below w1.heap.size w1 w2 := (by (repeat (first | exact Below.refl _ _ | assumption | refine Below.drew ?_ | refine up_drewN ?_ _ | refine up_alloc ?_ _ | refine up_set ?_ _ _ (by first | exact Nat.le_refl _ | (simp; done) | (simp; omega) | omega) | refine up_trans ?_ (by assumption)))); replace xc := up_c hB xz xc; replace xf := up_f hB xz xf; replace xz := Nat.lt_of_lt_of_le xz hB.size; have sw2 := hB.size; replace hW := up_trans hW hB; clear hB
  clear hb
  by_cases hr3 : r < p.length
  · rw [if_pos hr3]
    go_wp2_with fail
    go_ret
    exact ⟨rfl, hW⟩
  rw [if_neg hr3]
  have hr4 : ¬ r - (p.length : Int) < 0 := by omega
  have hp2 : p.length ≤ 1048576 := by omega
  have H := Lib.hid h
  have HW := Lib.hid hW
  clear h hW
  go_wp2_with fail
  clear hr4 hr3 hr0
  --EVER{laws.FnExactChangeBuffer;10;xchg10}
  refine wp_region_ever (R := RS []) (M := fun _ _ => True) [tEq _ (.slice A bs.length cp), tOwn w2.heap.size 28 3 bs.length (bs.flatMap bfC), tEq _ (S nm), tEq _ (.agg #[.int .i64 a, .int .i64 c, S p]), tEq _ (.agg #[.int .i64 a, .int .i64 c, S p]), tOwnOk w2.heap.size 28 3 (cgOut bs nm a c p).length ((cgOut bs nm a c p).flatMap bfC) (cgOk bs nm a c p), tOwnOk w2.heap.size 28 3 (cgOut bs nm a c p).length ((cgOut bs nm a c p).flatMap bfC) (cgOk bs nm a c p), tOwn w2.heap.size 28 3 (cgOut bs nm a c p).length ((cgOut bs nm a c p).flatMap bfC), tEq _ (.bool (cgOk bs nm a c p)), tOwn w2.heap.size 28 3 (cgOut bs nm a c p).length ((cgOut bs nm a c p).flatMap bfC), tEq _ (.bool (cgOk bs nm a c p))] (by kernel_rfl) (RS.refl _) (fun _ _ _ => RS.trans) (by kernel_rfl) (trivial) ?_ ?_
  · refine ⟨?_, ?_, ?_, ?_, ?_, ?_, ?_, ?_, ?_, ?_, ?_, trivial⟩
    · intro k' w' ρ hk' hR hM hF
      obtain ⟨f0, -⟩ := hF
      replace f0 : ρ (.tmp 0) = .slice A bs.length cp := f0
      exact ⟨RS.refl _ _, trivial, f0⟩
    · intro k' w' ρ hk' hR hM hF
      obtain ⟨f0, f1, -⟩ := hF
      replace f0 : ρ (.func _) = .func (.func _) #[] #[] := f0
      replace f1 : ρ (.tmp 32) = .slice A bs.length cp := f1
      refine good_of fun K hK => ?_
      go_simp; refine (toBufferS_any _ bs _ (H.out.up (up_trans HW.out hR.of_drew.to_below)) hs1).mono ?_; rintro e w4 ⟨y1, rfl, hy1, hb⟩; exact ⟨_, rfl, hK _ _ ((RS.refl _ _).below hb) trivial (own_base hy1 hR.size)⟩
    · intro k' w' ρ hk' hR hM hF
      obtain ⟨f0, -⟩ := hF
      replace f0 : ρ (.tmp 1) = S nm := f0
      exact ⟨RS.refl _ _, trivial, f0⟩
    · intro k' w' ρ hk' hR hM hF
      obtain ⟨f0, -⟩ := hF
      replace f0 : ρ (.tmp 5) = .pointer (some ⟨w.heap.size, 0, none⟩) := f0
      refine good_of fun K hK => ?_
      have z0 := (hR.cell xz (by simp) 0).trans (xc 0); have z1 := (hR.cell xz (by simp) 1).trans (xc 1); have z2 := (hR.cell xz (by simp) 2).trans (xc 2); go_simp; exact hK _ _ (RS.refl _ _) trivial rfl
    · intro k' w' ρ hk' hR hM hF
      obtain ⟨f0, f1, -⟩ := hF
      replace f0 : ρ (.func _) = .func (.func _) #[] #[] := f0
      replace f1 : ρ (.tmp 35) = .agg #[.int .i64 a, .int .i64 c, S p] := f1
      refine good_of fun K hK => ?_
      go_simp; refine (toChange_any a c p _).mono ?_; rintro e w4 ⟨rfl, hb⟩; exact ⟨_, rfl, hK _ _ ((RS.refl _ _).below hb) trivial rfl⟩
    · intro k' w' ρ hk' hR hM hF
      obtain ⟨f0, f1, f2, f3, -⟩ := hF
      replace f0 : ρ (.func _) = .func (.func _) #[] #[] := f0
      replace f2 : ρ (.tmp 34) = S nm := f2
      replace f3 : ρ (.tmp 36) = .agg #[.int .i64 a, .int .i64 c, S p] := f3
      refine good_of fun K hK => ?_
      obtain ⟨y1, hy1, q1⟩ : ∃ y1, ρ (.tmp 33) = y1 ∧ Own w' w2.heap.size 28 3 y1 bs.length (bs.flatMap bfC) := ⟨_, rfl, f1⟩; clear f1; have Q1 := Lib.hid q1; clear q1; go_simp; refine (specChangeBuffer_any _ bs nm a c p _ ⟨RdL.of_own Q1.out, H.out.2⟩ hp2).mono ?_; rintro e w4 ⟨v0, rfl, ho0, hb⟩; exact ⟨_, rfl, hK _ _ ((RS.refl _ _).below hb) trivial ⟨v0, rfl, own_base ho0 hR.size⟩⟩
    · intro k' w' ρ hk' hR hM hF
      obtain ⟨f0, -⟩ := hF
      exact ⟨RS.refl _ _, trivial, f0⟩
    · intro k' w' ρ hk' hR hM hF
      obtain ⟨f0, -⟩ := hF
      refine good_of fun K hK => ?_
      obtain ⟨v0, f0, q0⟩ := f0; replace f0 : ρ (.tmp 31) = .tuple #[v0, .bool (cgOk bs nm a c p)] := f0; have Q0 := Lib.hid q0; clear q0; go_simp; exact hK _ _ (RS.refl _ _) trivial Q0.out
    · intro k' w' ρ hk' hR hM hF
      obtain ⟨f0, -⟩ := hF
      refine good_of fun K hK => ?_
      obtain ⟨v0, f0, -⟩ := f0; replace f0 : ρ (.tmp 31) = .tuple #[v0, .bool (cgOk bs nm a c p)] := f0; go_simp; exact hK _ _ (RS.refl _ _) trivial rfl
    · intro k' w' ρ hk' hR hM hF
      obtain ⟨f0, -⟩ := hF
      exact ⟨RS.refl _ _, trivial, f0⟩
    · intro k' w' ρ hk' hR hM hF
      obtain ⟨f0, -⟩ := hF
      replace f0 : ρ (.tmp 39) = .bool (cgOk bs nm a c p) := f0
      exact ⟨RS.refl _ _, trivial, f0⟩
  · intro w' hR hM
    rintro _ rfl
    rintro _ -
    rintro _ rfl
    rintro _ rfl
    rintro _ rfl
    rintro _ ⟨_, rfl, -⟩
    rintro _ ⟨_, rfl, -⟩
    rintro _ -
    rintro _ rfl
    rintro v0 ho0
    rintro _ rfl
  --END
    have h := H.out
    have hW := up_trans HW.out hR.of_drew.to_below
    have ho0 : Own w' w2.heap.size 28 3 v0 (cgOut bs nm a c p).length ((cgOut bs nm a c p).flatMap bfC) := ho0
    obtain ⟨w3, rfl⟩ : ∃ w3, w3 = w' := ⟨_, rfl⟩
    have hB := hR.of_drew.to_below
    replace xc := up_c hB xz xc
    replace xf := up_f hB xz xf
    replace xz := Nat.lt_of_lt_of_le xz hB.size
    have sw3 := hB.size
    clear hR hM HW H hB
    dsimp only [EndAll, Act.put]
    go_wp2_with fail
    refine (toBufferS_any _ bs _ (h.up hW) hs1).mono ?_
    rintro e w4 ⟨x0, rfl, hx0, hb⟩
    have n1 := Lib.hid (own_ne ho0 hx0 (Nat.le_refl _))
    have hB : Below w3.heap.size w3 w4 := (by (repeat (first | exact Below.refl _ _ | assumption | refine Below.drew ?_ | refine up_drewN ?_ _ | refine up_alloc ?_ _ | refine up_set ?_ _ _ (by first | exact Nat.le_refl _ | (simp; done) | (simp; omega) | omega) | refine up_trans ?_ (by assumption)))); replace xc := up_c hB xz xc; replace xf := up_f hB xz xf; replace xz := Nat.lt_of_lt_of_le xz hB.size; replace ho0 := own_up ho0 hB; have sw4 := hB.size; replace hW := up_trans hW hB; clear hB
    clear hb
    go_wp2_with fail
    refine (toChange_any a c p _).mono ?_
    rintro e w4' ⟨rfl, hb⟩
    have hx0' := Lib.hid hx0
    have hB : Below w4.heap.size w4 w4' := (by (repeat (first | exact Below.refl _ _ | assumption | refine Below.drew ?_ | refine up_drewN ?_ _ | refine up_alloc ?_ _ | refine up_set ?_ _ _ (by first | exact Nat.le_refl _ | (simp; done) | (simp; omega) | omega) | refine up_trans ?_ (by assumption)))); replace xc := up_c hB xz xc; replace xf := up_f hB xz xf; replace xz := Nat.lt_of_lt_of_le xz hB.size; replace ho0 := own_up ho0 hB; replace hx0 := own_up hx0 hB; have sw4' := hB.size; replace hW := up_trans hW hB; clear hB
    clear hb
    go_wp2_with fail
    refine (implChangeBuffer_any _ bs nm a c p _ ⟨RdL.of_own hx0, h.2⟩ hp2).mono ?_
    rintro e w5 ⟨g0, rfl, hg0, hb⟩
    have n2 := Lib.hid (own_ne ho0 hg0 (Nat.le_refl _))
    have n3 := Lib.hid (own_ne hx0 hg0 (Nat.le_refl _))
    have hB : Below w4'.heap.size w4' w5 := (by (repeat (first | exact Below.refl _ _ | assumption | refine Below.drew ?_ | refine up_drewN ?_ _ | refine up_alloc ?_ _ | refine up_set ?_ _ _ (by first | exact Nat.le_refl _ | (simp; done) | (simp; omega) | omega) | refine up_trans ?_ (by assumption)))); replace xc := up_c hB xz xc; replace xf := up_f hB xz xf; replace xz := Nat.lt_of_lt_of_le xz hB.size; replace ho0 := own_up ho0 hB; replace hx0 := own_up hx0 hB; have sw5 := hB.size; replace hW := up_trans hW hB; clear hB
    clear hb
    go_wp2_with fail
    refine (eqBufferS_same _ _ (cgOut bs nm a c p) _ (RdL.of_own hg0) (RdL.of_own ho0)).mono ?_
    rintro e w6 ⟨rfl, hb⟩
    have hB : Below w5.heap.size w5 w6 := (by (repeat (first | exact Below.refl _ _ | assumption | refine Below.drew ?_ | refine up_drewN ?_ _ | refine up_alloc ?_ _ | refine up_set ?_ _ _ (by first | exact Nat.le_refl _ | (simp; done) | (simp; omega) | omega) | refine up_trans ?_ (by assumption)))); replace xc := up_c hB xz xc; replace xf := up_f hB xz xf; replace xz := Nat.lt_of_lt_of_le xz hB.size; replace ho0 := own_up ho0 hB; replace hx0 := own_up hx0 hB; replace hg0 := own_up hg0 hB; have sw6 := hB.size; replace hW := up_trans hW hB; clear hB
    clear hb
    go_wp2_with fail
    refine (toBufferS_any _ bs _ (h.up hW) hs1).mono ?_
    rintro e w7 ⟨y2, rfl, hy2, hb⟩
    have hB : Below w6.heap.size w6 w7 := (by (repeat (first | exact Below.refl _ _ | assumption | refine Below.drew ?_ | refine up_drewN ?_ _ | refine up_alloc ?_ _ | refine up_set ?_ _ _ (by first | exact Nat.le_refl _ | (simp; done) | (simp; omega) | omega) | refine up_trans ?_ (by assumption)))); replace xc := up_c hB xz xc; replace xf := up_f hB xz xf; replace xz := Nat.lt_of_lt_of_le xz hB.size; replace ho0 := own_up ho0 hB; replace hx0 := own_up hx0 hB; replace hg0 := own_up hg0 hB; have sw7 := hB.size; replace hW := up_trans hW hB; clear hB
    clear hb
    go_wp2_with fail
    refine (eqBufferS_same _ _ bs _ (RdL.of_own hx0) (RdL.of_own hy2)).mono ?_
    rintro e w8 ⟨rfl, hb⟩
    have hB : Below w7.heap.size w7 w8 := (by (repeat (first | exact Below.refl _ _ | assumption | refine Below.drew ?_ | refine up_drewN ?_ _ | refine up_alloc ?_ _ | refine up_set ?_ _ _ (by first | exact Nat.le_refl _ | (simp; done) | (simp; omega) | omega) | refine up_trans ?_ (by assumption)))); replace xc := up_c hB xz xc; replace xf := up_f hB xz xf; replace xz := Nat.lt_of_lt_of_le xz hB.size; replace ho0 := own_up ho0 hB; replace hx0 := own_up hx0 hB; replace hg0 := own_up hg0 hB; have sw8 := hB.size; replace hW := up_trans hW hB; clear hB
    clear hb hy2
    go_wp2_with fail
    refine (markBufferS_any _ _ _ _ 1 _ (by omega) (by omega) hs1 hx0).mono ?_
    rintro e w9 ⟨rfl, _, hgr⟩
    replace ho0 := ho0.kept hgr n1.out
    replace hg0 := hg0.kept hgr (ne_swap n3.out)
    replace hW := up_grown hW hgr (own_lt hx0 (by omega))
    have hxo := ho_ne hx0 (show w.heap.size < w2.heap.size by omega)
    replace xc := gk_c hgr xz hxo xc
    replace xf := gk_f hgr xz hxo xf
    replace xz := Nat.lt_of_lt_of_le xz hgr.size
    have sw9 : w8.heap.size ≤ w9.heap.size := hgr.size
    clear hxo
    have p1 : ¬ ((1 + 3 * bs.length : Nat) : Int) < 0 := by omega
    clear hgr hx0 n1 n3
    go_wp2_with fail
    refine (eqBufferS_same _ _ (cgOut bs nm a c p) _ (RdL.of_own hg0) (RdL.of_own ho0)).mono ?_
    rintro e w10 ⟨rfl, hb⟩
    have hB : Below w9.heap.size w9 w10 := (by (repeat (first | exact Below.refl _ _ | assumption | refine Below.drew ?_ | refine up_drewN ?_ _ | refine up_alloc ?_ _ | refine up_set ?_ _ _ (by first | exact Nat.le_refl _ | (simp; done) | (simp; omega) | omega) | refine up_trans ?_ (by assumption)))); replace xc := up_c hB xz xc; replace xf := up_f hB xz xf; replace xz := Nat.lt_of_lt_of_le xz hB.size; replace ho0 := own_up ho0 hB; replace hg0 := own_up hg0 hB; have sw10 := hB.size; replace hW := up_trans hW hB; clear hB
    clear hb p1
    go_wp2_with fail
    refine (markBufferS_any _ _ _ _ 1 _ (by omega) (by omega) (by omega) hg0).mono ?_
    rintro e w11 ⟨rfl, hg1, hgr⟩
    replace ho0 := ho0.kept hgr n2.out
    replace hW := up_grown hW hgr (own_lt hg0 (by omega))
    have hxo := ho_ne hg0 (show w.heap.size < w2.heap.size by omega)
    replace xc := gk_c hgr xz hxo xc
    replace xf := gk_f hgr xz hxo xf
    replace xz := Nat.lt_of_lt_of_le xz hgr.size
    have sw11 : w10.heap.size ≤ w11.heap.size := hgr.size
    clear hxo
    have hq : (cgOut bs nm a c p).length = (mkB 1 (cgOut bs nm a c p).length).length := (mkB_len _ _).symm
    have HQ := Lib.hid hq
    clear hgr hg0 n2 hq
    go_wp2_with fail
    refine (heldBufferS_any _ (cgOut bs nm a c p).length 1 _ (by omega) (by omega) (by omega) (RdL.of_own (by rw [← HQ.out]; exact hg1))).mono ?_
    rintro e w12 ⟨rfl, hb⟩
    have hB : Below w11.heap.size w11 w12 := (by (repeat (first | exact Below.refl _ _ | assumption | refine Below.drew ?_ | refine up_drewN ?_ _ | refine up_alloc ?_ _ | refine up_set ?_ _ _ (by first | exact Nat.le_refl _ | (simp; done) | (simp; omega) | omega) | refine up_trans ?_ (by assumption)))); replace xc := up_c hB xz xc; replace xf := up_f hB xz xf; replace xz := Nat.lt_of_lt_of_le xz hB.size; replace ho0 := own_up ho0 hB; replace hg1 := own_up hg1 hB; have sw12 := hB.size; replace hW := up_trans hW hB; clear hB
    clear hb
    have p1 : ¬ ((1 + 3 * (cgOut bs nm a c p).length : Nat) : Int) < 0 := by omega
    have H := Lib.hid h
    have HW := Lib.hid hW
    have Ho0 := Lib.hid ho0
    have Hg1 := Lib.hid hg1
    clear h hW ho0 hg1
    go_wp2_with fail
    --EVER{laws.FnExactChangeBuffer;29;xchg29}
    refine wp_region_ever (R := RS []) (M := fun _ _ => True) [tEq _ (.slice A bs.length cp), tOwn w12.heap.size 28 3 bs.length (bs.flatMap bfC), tEq _ (S nm), tEq _ (.agg #[.int .i64 a, .int .i64 c, S p]), tEq _ (.agg #[.int .i64 a, .int .i64 c, S p]), tOwnOk w12.heap.size 28 3 (cgOut bs nm a c p).length ((cgOut bs nm a c p).flatMap bfC) (cgOk bs nm a c p), tOwnOk w12.heap.size 28 3 (cgOut bs nm a c p).length ((cgOut bs nm a c p).flatMap bfC) (cgOk bs nm a c p), tOwn w12.heap.size 28 3 (cgOut bs nm a c p).length ((cgOut bs nm a c p).flatMap bfC), tEq _ (.bool (cgOk bs nm a c p)), tOwn w12.heap.size 28 3 (cgOut bs nm a c p).length ((cgOut bs nm a c p).flatMap bfC), tEq _ (.bool (cgOk bs nm a c p))] (by kernel_rfl) (RS.refl _) (fun _ _ _ => RS.trans) (by kernel_rfl) (trivial) ?_ ?_
    · refine ⟨?_, ?_, ?_, ?_, ?_, ?_, ?_, ?_, ?_, ?_, ?_, trivial⟩
      · intro k' w' ρ hk' hR hM hF
        obtain ⟨f0, -⟩ := hF
        replace f0 : ρ (.tmp 0) = .slice A bs.length cp := f0
        exact ⟨RS.refl _ _, trivial, f0⟩
      · intro k' w' ρ hk' hR hM hF
        obtain ⟨f0, f1, -⟩ := hF
        replace f0 : ρ (.func _) = .func (.func _) #[] #[] := f0
        replace f1 : ρ (.tmp 92) = .slice A bs.length cp := f1
        refine good_of fun K hK => ?_
        go_simp; refine (toBufferS_any _ bs _ (H.out.up (up_trans HW.out hR.of_drew.to_below)) hs1).mono ?_; rintro e w4 ⟨y1, rfl, hy1, hb⟩; exact ⟨_, rfl, hK _ _ ((RS.refl _ _).below hb) trivial (own_base hy1 hR.size)⟩
      · intro k' w' ρ hk' hR hM hF
        obtain ⟨f0, -⟩ := hF
        replace f0 : ρ (.tmp 1) = S nm := f0
        exact ⟨RS.refl _ _, trivial, f0⟩
      · intro k' w' ρ hk' hR hM hF
        obtain ⟨f0, -⟩ := hF
        replace f0 : ρ (.tmp 5) = .pointer (some ⟨w.heap.size, 0, none⟩) := f0
        refine good_of fun K hK => ?_
        have z0 := (hR.cell xz (by simp) 0).trans (xc 0); have z1 := (hR.cell xz (by simp) 1).trans (xc 1); have z2 := (hR.cell xz (by simp) 2).trans (xc 2); go_simp; exact hK _ _ (RS.refl _ _) trivial rfl
      · intro k' w' ρ hk' hR hM hF
        obtain ⟨f0, f1, -⟩ := hF
        replace f0 : ρ (.func _) = .func (.func _) #[] #[] := f0
        replace f1 : ρ (.tmp 95) = .agg #[.int .i64 a, .int .i64 c, S p] := f1
        refine good_of fun K hK => ?_
        go_simp; refine (toChange_any a c p _).mono ?_; rintro e w4 ⟨rfl, hb⟩; exact ⟨_, rfl, hK _ _ ((RS.refl _ _).below hb) trivial rfl⟩
      · intro k' w' ρ hk' hR hM hF
        obtain ⟨f0, f1, f2, f3, -⟩ := hF
        replace f0 : ρ (.func _) = .func (.func _) #[] #[] := f0
        replace f2 : ρ (.tmp 94) = S nm := f2
        replace f3 : ρ (.tmp 96) = .agg #[.int .i64 a, .int .i64 c, S p] := f3
        refine good_of fun K hK => ?_
        obtain ⟨y1, hy1, q1⟩ : ∃ y1, ρ (.tmp 93) = y1 ∧ Own w' w12.heap.size 28 3 y1 bs.length (bs.flatMap bfC) := ⟨_, rfl, f1⟩; clear f1; have Q1 := Lib.hid q1; clear q1; go_simp; refine (implChangeBuffer_any _ bs nm a c p _ ⟨RdL.of_own Q1.out, H.out.2⟩ hp2).mono ?_; rintro e w4 ⟨v0, rfl, ho0, hb⟩; exact ⟨_, rfl, hK _ _ ((RS.refl _ _).below hb) trivial ⟨v0, rfl, own_base ho0 hR.size⟩⟩
      · intro k' w' ρ hk' hR hM hF
        obtain ⟨f0, -⟩ := hF
        exact ⟨RS.refl _ _, trivial, f0⟩
      · intro k' w' ρ hk' hR hM hF
        obtain ⟨f0, -⟩ := hF
        refine good_of fun K hK => ?_
        obtain ⟨v0, f0, q0⟩ := f0; replace f0 : ρ (.tmp 91) = .tuple #[v0, .bool (cgOk bs nm a c p)] := f0; have Q0 := Lib.hid q0; clear q0; go_simp; exact hK _ _ (RS.refl _ _) trivial Q0.out
      · intro k' w' ρ hk' hR hM hF
        obtain ⟨f0, -⟩ := hF
        refine good_of fun K hK => ?_
        obtain ⟨v0, f0, -⟩ := f0; replace f0 : ρ (.tmp 91) = .tuple #[v0, .bool (cgOk bs nm a c p)] := f0; go_simp; exact hK _ _ (RS.refl _ _) trivial rfl
      · intro k' w' ρ hk' hR hM hF
        obtain ⟨f0, -⟩ := hF
        exact ⟨RS.refl _ _, trivial, f0⟩
      · intro k' w' ρ hk' hR hM hF
        obtain ⟨f0, -⟩ := hF
        replace f0 : ρ (.tmp 99) = .bool (cgOk bs nm a c p) := f0
        exact ⟨RS.refl _ _, trivial, f0⟩
    · intro w' hR hM
      rintro _ rfl
      rintro _ -
      rintro _ rfl
      rintro _ rfl
      rintro _ rfl
      rintro _ ⟨_, rfl, -⟩
      rintro _ ⟨_, rfl, -⟩
      rintro _ -
      rintro _ rfl
      rintro h0 hh0
      rintro _ rfl
    --END
      have h := H.out
      have hh0 : Own w' w12.heap.size 28 3 h0 (cgOut bs nm a c p).length ((cgOut bs nm a c p).flatMap bfC) := hh0
      obtain ⟨w14, rfl⟩ : ∃ w3, w3 = w' := ⟨_, rfl⟩
      have hB := hR.of_drew.to_below
      have hW := up_trans HW.out hB
      have ho0 := own_up Ho0.out hB
      have hg1 := own_up Hg1.out hB
      clear hR hM HW H hB Ho0 Hg1 xc xf xz
      dsimp only [EndAll, Act.put]
      go_wp2_with fail
      refine (eqBufferS_same _ _ (cgOut bs nm a c p) _ (RdL.of_own hh0) (RdL.of_own ho0)).mono ?_
      rintro e w15 ⟨rfl, hb⟩
      have hB : Below w14.heap.size w14 w15 := (by (repeat (first | exact Below.refl _ _ | assumption | refine Below.drew ?_ | refine up_drewN ?_ _ | refine up_alloc ?_ _ | refine up_set ?_ _ _ (by first | exact Nat.le_refl _ | (simp; done) | (simp; omega) | omega) | refine up_trans ?_ (by assumption)))); replace hg1 := own_up hg1 hB; have sw15 := hB.size; replace hW := up_trans hW hB; clear hB
      clear hb hh0 ho0
      go_wp2_with fail
      refine (heldBufferS_any _ (cgOut bs nm a c p).length 1 _ (by omega) (by omega) (by omega) (RdL.of_own (by rw [← HQ.out]; exact hg1))).mono ?_
      rintro e w16 ⟨rfl, hb⟩
      have hB : Below w15.heap.size w15 w16 := (by (repeat (first | exact Below.refl _ _ | assumption | refine Below.drew ?_ | refine up_drewN ?_ _ | refine up_alloc ?_ _ | refine up_set ?_ _ _ (by first | exact Nat.le_refl _ | (simp; done) | (simp; omega) | omega) | refine up_trans ?_ (by assumption)))); have sw16 := hB.size; replace hW := up_trans hW hB; clear hB
      clear hb
      go_wp2_with fail
      go_ret
      exact ⟨rfl, hW⟩

end Go.Proofs.Ytaldlnbgloplbaa
