/- What is proved here: What is proved here: the contract of l20Text where it draws valid texts only. No condition but that the code is a slice of bytes. What is proved here: the law (an operation's link may speak of its own value too) for regions whose order is drawn, with links: beside the lasting fact on its own value an operation may give a lasting fact on the value of another one that it waits for. What is proved here: words for drawn regions that read a code, call for a history, and store it in the box d that held V0. What is proved here: plain laws for l20History: a row of states with one cell changed; a box with one cell changed. What is proved here: the contract of l20History. No condition but that the code is a slice of bytes. No condition. -/
import Derived.Test.YtdngdlcibaiekaaGreatDoorDrawT
import Derived.Test.YtdngdlcibaiekaaGreatDoorText1
import Derived.Test.YtdngdlcibaiekaaGreatDoorEverL
import Derived.Test.YtdngdlcibaiekaaGreatDoorEverH
import Derived.Test.YtdngdlcibaiekaaGreatDoorHNx
import Derived.Test.YtdngdlcibaiekaaGreatDoorDrawC
namespace Go.Proofs.YtdngdlcibaiekaaGreatDoor
open Go.RowKit

theorem odd_zero (g : Nat) (w : World) : Calls Tryz.prog 60 #[.pointer (some ⟨g, 0, none⟩), .int .i64 0] w fun e w' => e = .returned (.bool false) ∧ w = w' := by
  go_enter Tryz.func60, Tryz.ntmps60
  go_wp2_with fail
  go_ret
  exact ⟨rfl, rfl⟩

/-- a row of short strings that may stand in texts. -/
def StrsC (w : World) (b k m : Nat) : Prop := b < w.heap.size ∧ ∀ j, j < k → ∃ l : List UInt8, w.cell? ⟨b, j, none⟩ = some (S l) ∧ l.length ≤ m ∧ l.all okC = true
theorem StrsC.up {w w' : World} {b k m g : Nat} (h : StrsC w b k m) (hg : w.grownBy w' (some g)) (hn : b ≠ g) : StrsC w' b k m :=
  ⟨Nat.lt_of_lt_of_le h.1 hg.size, fun j hj => by
    obtain ⟨l, h1, h2⟩ := h.2 j hj
    exact ⟨l, (World.cell?_of_block (a := ⟨b, j, none⟩) (hg.block b h.1 (by simpa using hn))).trans h1, h2⟩⟩
theorem strsC_new (w : World) (t : TypeId) (xs : List Value) (k m : Nat) (hk : xs.length = k) (h : ∀ x ∈ xs, ∃ l : List UInt8, x = S l ∧ l.length ≤ m ∧ l.all okC = true) : StrsC (w.alloc (.cells xs.toArray t)) w.heap.size k m :=
  ⟨by simp, fun j hj => by
    have hx : xs[j]? = some xs[j] := List.getElem?_eq_getElem (by omega)
    obtain ⟨l, hl, hm⟩ := h xs[j] (List.getElem_mem _)
    refine ⟨l, ?_, hm⟩
    rw [World.cell?_alloc_new]
    simp only [List.getElem?_toArray]
    rw [hx, hl]⟩
theorem all_take {l : List UInt8} (h : l.all okC = true) (k : Nat) : (l.take k).all okC = true := by
  rw [List.all_eq_true] at h ⊢
  exact fun x hx => h x (List.mem_of_mem_take hx)
def TextPost0 (g n : Nat) (zs : List Int) (p : Nat) (w : World) (e : Ending) (w' : World) : Prop :=
  ∃ s : List UInt8, e = .returned (S s) ∧ tv s = true ∧ (∃ q, q ≤ p + 30 ∧ Rdr w' g n zs q) ∧ w.grownBy w' (some g)

set_option maxRecDepth 100000 in
set_option maxHeartbeats 1000000 in
theorem l20Text0_any (g n : Nat) (zs : List Int) (p : Nat) (w : World) (hr : Rdr w g n zs p) (hp : p < 900000000) :
    Calls Tryz.prog 56 #[.pointer (some ⟨g, 0, none⟩), .int .i64 0] w (TextPost0 g n zs p w) := by
  have hg := hr.lt
  have hW := World.grownBy.refl w (some g)
  go_enter Tryz.func56, Tryz.ntmps56
  go_wp2_with fail
  refine (pick_any _ _ _ _ _ _ (hr.up (by (repeat (first | exact Below.refl _ _ | assumption | refine Below.drew ?_ | refine up_drewN ?_ _ | refine up_alloc ?_ _ | refine up_set ?_ _ _ (by first | exact Nat.le_refl _ | (simp; done) | (simp; omega) | omega) | refine up_trans ?_ (by assumption))))) (by omega)).mono ?_
  rintro e w1 ⟨x1, rfl, h1, h2, hr1, hb⟩
  have hG : w.grownBy w1 (some g) := (by (repeat (first | exact World.grownBy.refl _ _ | assumption | refine gb_drew ?_ | refine gb_drewN ?_ _ | refine gb_alloc ?_ _ | refine gb_here ?_ rfl _ | refine gb_set ?_ _ _ (by first | exact Nat.le_refl _ | (simp; done) | (simp; omega) | omega) | refine gb_trans ?_ (by assumption) | refine gb_below ?_ (by assumption)))); have sw1 := hG.size; replace hW := gb_trans hW hG; clear hG
  have hx1 := h1 (by omega)
  have hS : StrsC w1 w.heap.size 24 7 := (strsC_new w _ _ 24 7 (by rfl) (by
    intro x hx
    simp only [List.mem_cons, List.not_mem_nil, or_false] at hx
    rcases hx with rfl | rfl | rfl | rfl | rfl | rfl | rfl | rfl | rfl | rfl | rfl | rfl | rfl | rfl | rfl | rfl | rfl | rfl | rfl | rfl | rfl | rfl | rfl | rfl
    all_goals exact ⟨_, rfl, by decide, by decide⟩)).up hb (by omega)
  have hbg : w.heap.size ≠ g := by omega
  clear hb hr h1 h2
  have HS := Lib.hid hS
  clear hS
  go_wp2_with fail
  go_loopw [5, 7] (fun s i wr => ∃ (k : Nat) (l : List UInt8) (q : Nat), k ≤ 23 ∧ i = .int .i64 k ∧ s = S l ∧ l.length + 7 * k ≤ 161 ∧ q + k ≤ p + 24 ∧ Rdr wr g n zs q ∧ w.grownBy wr (some g) ∧ Hid (l.all okC = true) ∧ Hid (StrsC wr w.heap.size 24 7)) (fun _ i _ => (intOf i).toNat)
  case atStart =>
    obtain ⟨k1, rfl⟩ : ∃ k1 : Nat, x1 = k1 := ⟨x1.toNat, by omega⟩
    exact ⟨k1, [], p + 1, by omega, rfl, rfl, by simp; omega, by omega, hr1, hW, Lib.hid rfl, HS⟩
  case round =>
    obtain ⟨k, l, q, hk, rfl, rfl, hl, hq, hrw, hWr, HC, HSw⟩ := hrel
    clear hr1 hW HS
    by_cases h0 : 0 < k
    · have i1 : (0 : Int) < (k : Int) := by omega
      go_wp2_with fail
      refine (pick_any _ _ _ _ _ _ (hrw.up (by (repeat (first | exact Below.refl _ _ | assumption | refine Below.drew ?_ | refine up_drewN ?_ _ | refine up_alloc ?_ _ | refine up_set ?_ _ _ (by first | exact Nat.le_refl _ | (simp; done) | (simp; omega) | omega) | refine up_trans ?_ (by assumption))))) (by omega)).mono ?_
      rintro e w2 ⟨x2, rfl, h1, h2, hr2, hb⟩
      have hx2 := h1 (by omega)
      have hS2 := HSw.out.up hb hbg
      obtain ⟨u, hu1, hu2, hu3⟩ := hS2.2 x2.toNat (by omega)
      have HU := Lib.hid hu3
      have HS2 := Lib.hid hS2
      have hW2 := gb_trans hWr hb
      clear hb hrw h1 h2 hWr HSw hS2 hu3
      go_wp2_with fail
      go_roundw
      case rel =>
        refine ⟨k - 1, l ++ u, q + 1, by omega, ?_, rfl, by rw [List.length_append]; omega, by omega, hr2, hW2, Lib.hid (by rw [List.all_append, HC.out, HU.out]; rfl), HS2⟩
        rw [show ((k - 1 : Nat) : Int) = (k : Int) - 1 by omega]
      case measure => simp [intOf]; omega
    · obtain rfl : k = 0 := by omega
      have hlen : l.length ≤ 161 := by omega
      clear HSw hl
      have HT : Hid (∀ j, j ≤ 120 → tv (l.take j) = true) := Lib.hid (fun j hj => by
        unfold tv
        rw [all_take HC.out j, Bool.true_and]
        exact decide_eq_true (by rw [List.length_take]; omega))
      have HL : Hid (l.length ≤ 120 → tv l = true) := Lib.hid (fun h => by
        unfold tv
        rw [HC.out, Bool.true_and]
        exact decide_eq_true h)
      by_cases h120 : l.length ≤ 120
      all_goals
        go_wp2_with fail
        refine (odd_zero _ _).mono ?_
        rintro e w2 ⟨rfl, rfl⟩
        go_wp2_with fail
        go_ret
        refine ⟨_, rfl, ?_, ⟨q, by omega, hrw⟩, hWr⟩
        first | exact HL.out (by assumption) | exact HT.out _ (by omega) | (simp only [List.take_length]; exact HL.out (by assumption))

end Go.Proofs.YtdngdlcibaiekaaGreatDoor

namespace Go.Proofs.YtdngdlcibaiekaaGreatDoor
open Go.RowKit

/-- a lasting fact on a value, and one on the value of the slot lk. -/
structure TlV (R : World → World → Prop) extends Ty R where
  lk : Option Nat
  s : Value → Value → World → Prop
  us : ∀ v u w w', R w w' → s v u w → s v u w'

section
variable {P : Program} {R : World → World → Prop}
def Ty.lV (t : Ty R) : TlV R := { t with lk := none, s := fun _ _ _ => True, us := fun _ _ _ _ _ _ => trivial }
def tlAtV (T : List (TlV R)) (i : Nat) : TlV R := match T[i]? with | some t => t | none => (tyAny R).lV
abbrev tysV (T : List (TlV R)) : List (Ty R) := T.map TlV.toTy
theorem tyAt_tysV (T : List (TlV R)) (i : Nat) : tyAt (tysV T) i = (tlAtV T i).toTy := by
  unfold tyAt tlAtV tysV
  rw [List.getElem?_map]
  cases T[i]? <;> rfl
def GoodLV (P : Program) (R : World → World → Prop) (M : World → Prop) (T : TlV R) (u : Value) (w : World) : Result Next → Prop
  | .ok (.value v) w' => R w w' ∧ M w' ∧ T.p v w' ∧ T.s v u w'
  | .ok .skip w' => R w w' ∧ M w' ∧ T.p undef w' ∧ T.s undef u w'
  | .ok (.enter f args) w' => Calls P f args w' fun e w'' => ∃ v, e = .returned v ∧ R w w'' ∧ M w'' ∧ T.p v w'' ∧ T.s v u w''
  | _ => False
def lkAV (T : TlV R) (ρ : Operand → Value) : Value := match T.lk with | some t => ρ (.tmp t) | none => undef
def lkvV (l : List Oper) (T : List (TlV R)) (vs : Nat → Value) (j : Nat) : Value := match (tlAtV T j).lk with | some t => (match prodOf l t with | some i => vs i | none => undef) | none => undef
def OpOkLV (P : Program) (R : World → World → Prop) (M : Nat → World → Prop) (d : Nat) (D : World → Prop) (l : List Oper) (a : Act) (T : List (TlV R)) (w0 : World) (i : Nat) (o : Oper) : Prop :=
  ∀ k w ρ, k < l.length → R w0 w → M k w → ((i == d || reach l l.length d i) = true → D w) → factsOf l a (tysV T) ρ w o o.op.operands.toList →
    match o.guard with
    | none => GoodLV P R (fun w' => M (k + 1) w' ∧ (i ≠ d → D w → D w')) (tlAtV T i) (lkAV (tlAtV T i) ρ) w ((execOp ρ o).run P w)
    | some (j, b) => ∀ u, (tlAtV T j).p u w → (u = .bool b → GoodLV P R (fun w' => M (k + 1) w' ∧ (i ≠ d → D w → D w')) (tlAtV T i) (lkAV (tlAtV T i) ρ) w ((execOp ρ o).run P w)) ∧ (u ≠ .bool b → M (k + 1) w ∧ (tlAtV T i).p undef w ∧ (tlAtV T i).s undef (lkAV (tlAtV T i) ρ) w)
def OpsOkLV (P : Program) (R : World → World → Prop) (M : Nat → World → Prop) (d : Nat) (D : World → Prop) (l : List Oper) (a : Act) (T : List (TlV R)) (w0 : World) : Nat → List Oper → Prop
  | _, [] => True
  | i, o :: rest => OpOkLV P R M d D l a T w0 i o ∧ OpsOkLV P R M d D l a T w0 (i + 1) rest
/-- the values so far. -/
def pastPV (vs : Nat → Value) (i : Nat) (v : Value) : Nat → Value := fun j => if j = i then v else vs j
def EndAllLV (L : List Oper) (T : List (TlV R)) (w : World) (Q : Act → Prop) : Nat → List Oper → Act → (Nat → Value) → Prop
  | _, [], a, _ => Q a
  | i, o :: rest, a, vs => ∀ v, (tlAtV T i).p v w → (tlAtV T i).s v (lkvV L T vs i) w → EndAllLV L T w Q (i + 1) rest (a.put o.dst v) (pastPV vs i v)
def lkFitV (l : List Oper) (T : List (TlV R)) : Bool := (List.range l.length).all fun i => match (tlAtV T i).lk with
  | none => true
  | some t => match l[i]?, prodOf l t with | some o, some j => depOn o j && decide (j < i) | _, _ => false
theorem lkFit_atV {l : List Oper} {T : List (TlV R)} (h : lkFitV l T = true) {i t : Nat} {o : Oper} (ho : l[i]? = some o) (hl : (tlAtV T i).lk = some t) : ∃ j, prodOf l t = some j ∧ depOn o j = true ∧ j < i := by
  have hi : i < l.length := (List.getElem?_eq_some_iff.1 ho).1
  unfold lkFitV at h
  rw [List.all_eq_true] at h
  have := h i (List.mem_range.2 hi)
  simp only [hl, ho] at this
  cases hp : prodOf l t with
  | none => simp only [hp] at this; cases this
  | some j => simp only [hp] at this; simp at this; exact ⟨j, rfl, this⟩
theorem opsOkL_atV {M : Nat → World → Prop} {d : Nat} {D : World → Prop} {l : List Oper} {a : Act} {T : List (TlV R)} {w0 : World} : ∀ (m : List Oper) (i : Nat), OpsOkLV P R M d D l a T w0 i m → ∀ j o, m[j]? = some o → OpOkLV P R M d D l a T w0 (i + j) o
  | [], _, _, j, o, h => by simp at h
  | x :: m, i, h, 0, o, ho => by
    simp at ho; subst ho
    exact h.1
  | x :: m, i, h, j + 1, o, ho => by
    have := opsOkL_atV m (i + 1) h.2 j o (by simpa using ho)
    rwa [Nat.add_assoc, Nat.add_comm 1 j] at this

structure InvLV (M : Nat → World → Prop) (dd : Nat) (D : World → Prop) (l : List Oper) (a : Act) (T : List (TlV R)) (w0 : World) (listed : Array Bool) (vs : Nat → Value) (k : Nat) (a' : Act) (w' : World) : Prop where
  r : R w0 w'
  m : M k w'
  d : a'.defers = a.defers
  s : a'.tmps.size = a.tmps.size
  t : ∀ t, a'.tmps[t]? = (match prodOf l t with | some j => if listed.getD j true = true then (if t < a.tmps.size then some (vs j) else none) else a.tmps[t]? | none => a.tmps[t]?)
  f : ∀ j, j < l.length → listed.getD j true = true → (tlAtV T j).p (vs j) w' ∧ (tlAtV T j).s (vs j) (lkvV l T vs j) w'
  n : listed.getD dd true = false → D w'

theorem facts_of_invLV {M : Nat → World → Prop} {dd : Nat} {D : World → Prop} {l : List Oper} {a a' : Act} {T : List (TlV R)} {w0 w' : World} {listed : Array Bool} {vs : Nat → Value} {k : Nat} (h : InvLV M dd D l a T w0 listed vs k a' w') (o : Oper)
    (xs : List Operand) (hx : ∀ x ∈ xs, ∀ t j, x = .tmp t → prodOf l t = some j → if depOn o j = true then (listed.getD j true = true ∧ j < l.length ∧ t < a.tmps.size) else listed.getD j true = false) : factsOf l a (tysV T) a'.eval w' o xs := by
  induction xs with
  | nil => trivial
  | cons x xs ih =>
    refine ⟨?_, ih fun y hy => hx y (List.mem_cons_of_mem _ hy)⟩
    unfold factOf
    cases x with
    | tmp t =>
      simp only []
      have ht := h.t t
      unfold srcOf
      cases hp : prodOf l t with
      | none =>
        rw [hp] at ht
        simp only at ht ⊢
        show a'.tmps.getD t undef = a.tmps.getD t undef
        rw [Array.getD_eq_getD_getElem?, Array.getD_eq_getD_getElem?, ht]
      | some j =>
        rw [hp] at ht
        have hxx := hx (.tmp t) (List.mem_cons_self ..) t j rfl hp
        dsimp only
        cases hdep : depOn o j with
        | false =>
          rw [hdep] at hxx
          simp only [Bool.false_eq_true, if_false] at hxx
          simp only [hxx, Bool.false_eq_true, if_false] at ht ⊢
          show a'.tmps.getD t undef = a.tmps.getD t undef
          rw [Array.getD_eq_getD_getElem?, Array.getD_eq_getD_getElem?, ht]
        | true =>
        rw [hdep] at hxx
        simp only [if_true] at hxx
        obtain ⟨h1, h2, h3⟩ := hxx
        simp only [h1, if_true, h3] at ht
        simp only [if_true]
        rw [tyAt_tysV]
        show (tlAtV T j).p (a'.eval (.tmp t)) w'
        have : a'.eval (.tmp t) = vs j := by
          show a'.tmps.getD t undef = _
          rw [Array.getD_eq_getD_getElem?, ht]; rfl
        rw [this]
        exact (h.f j h2 h1).1
    | _ => rfl

theorem endAllL_goV {l : List Oper} {a : Act} {T : List (TlV R)} {w' : World} {Q : Act → Prop} {vs : Nat → Value} (hl : ∀ j o, l[j]? = some o → ∀ d, o.dst = some d → prodOf l d = some j) (hv : ∀ j, j < l.length → (tlAtV T j).p (vs j) w' ∧ (tlAtV T j).s (vs j) (lkvV l T vs j) w') (hlk : lkFitV l T = true) :
    ∀ (m : List Oper) (i : Nat) (b : Act) (ws : Nat → Value), (∀ j, j < i → ws j = vs j) → (∀ j, m[j]? = l[i + j]?) → UpTo l a vs i b → EndAllLV l T w' Q i m b ws → ∃ a', Q a' ∧ UpTo l a vs l.length a'
  | [], i, b, ws, hws, hm, hb, h => by
    refine ⟨b, h, hb.1, hb.2.1, fun t => ?_⟩
    rw [hb.2.2 t]
    have hi : l.length ≤ i := by
      have := (hm 0).symm
      simpa using this
    cases hp : prodOf l t with
    | none => rfl
    | some j =>
      have := prodOf_lt hp
      simp only [show j < i by omega, this, if_true]
  | o :: m, i, b, ws, hws, hm, hb, h => by
    have ho : l[i]? = some o := by simpa using (hm 0).symm
    have hil : i < l.length := (List.getElem?_eq_some_iff.1 ho).1
    have hlw : lkvV l T ws i = lkvV l T vs i := by
      unfold lkvV
      cases hlt : (tlAtV T i).lk with
      | none => rfl
      | some t =>
        obtain ⟨j, hp, _, hj⟩ := lkFit_atV hlk ho hlt
        simp only [hp]
        exact hws j hj
    have h1 := h (vs i) (hv i hil).1 (by rw [hlw]; exact (hv i hil).2)
    refine endAllL_goV hl hv hlk m (i + 1) (b.put o.dst (vs i)) (pastPV ws i (vs i)) (fun j hj => by
      unfold pastPV
      by_cases hji : j = i
      · rw [if_pos hji, hji]
      · rw [if_neg hji]; exact hws j (by omega)) (fun j => by have := hm (j + 1); simpa [Nat.add_assoc, Nat.add_comm 1 j] using this) ⟨?_, ?_, fun t => ?_⟩ h1
    · rw [← hb.1]; cases o.dst <;> rfl
    · rw [← hb.2.1]; cases o.dst <;> simp [Act.put]
    · have ht := hb.2.2 t
      cases hd : o.dst with
      | none =>
        show b.tmps[t]? = _
        rw [ht]
        cases hp : prodOf l t with
        | none => rfl
        | some j =>
          have hne : j ≠ i := prod_ne ho (by rw [hd]; simp) hp
          simp only []
          by_cases hj : j < i
          · simp only [hj, show j < i + 1 by omega]
          · simp only [hj, show ¬ j < i + 1 by omega]
      | some d =>
        have hpd := hl i o ho d hd
        by_cases hdt : d = t
        · subst hdt
          rw [hpd]
          simp only [show i < i + 1 by omega, if_true]
          show (b.tmps.setIfInBounds d (vs i))[d]? = _
          rw [Array.getElem?_setIfInBounds_self]
          rw [hb.2.1]
        · show (b.tmps.setIfInBounds d (vs i))[t]? = _
          rw [Array.getElem?_setIfInBounds_ne hdt, ht]
          cases hp : prodOf l t with
          | none => rfl
          | some j =>
            have hne : j ≠ i := prod_ne ho (by rw [hd]; simpa using hdt) hp
            simp only []
            by_cases hj : j < i
            · simp only [hj, show j < i + 1 by omega]
            · simp only [hj, show ¬ j < i + 1 by omega]

theorem oper_wp_of_goodLV {M : World → Prop} {T : TlV R} {u : Value} {w : World} {o : Oper} {a : Act} {K : Act → World → Prop} {Q : Exit → Act → World → Prop}
    (h : GoodLV P R M T u w ((execOp a.eval o).run P w)) (hK : ∀ v w', R w w' → M w' → T.p v w' → T.s v u w' → K (a.put o.dst v) w') : o.wp P a w K Q := by
  unfold Oper.wp
  generalize (execOp a.eval o).run P w = r at *
  cases r with
  | ok n w' =>
    cases n <;> simp only [GoodLV] at h <;> simp only [Oper.upon]
    case value u => exact hK _ _ h.1 h.2.1 h.2.2.1 h.2.2.2
    case skip => exact hK _ _ h.1 h.2.1 h.2.2.1 h.2.2.2
    case enter f args => exact h.mono fun e w'' ⟨v, he, h1, h2, h3, h4⟩ => by subst he; exact hK _ _ h1 h2 h3 h4
  | halt x w' => exact h.elim

theorem wpAny_everLV {M : Nat → World → Prop} {dd : Nat} {D : World → Prop} {l : List Oper} {a : Act} {T : List (TlV R)} {w0 : World} {Q : Exit → Act → World → Prop} (hrefl : ∀ a, R a a) (trans : ∀ a b c, R a b → R b c → R a c)
    (hB : regFit l a.tmps.size 0 l = true) (hlk : lkFitV l T = true) (hops : OpsOkLV P R M dd D l a T w0 0 l) (hend : ∀ w', R w0 w' → M l.length w' → EndAllLV l T w' (fun a' => Q .normal a' w') 0 l a (fun _ => undef)) :
    ∀ (fuel k : Nat) (listed : Array Bool) (vs : Nat → Value) (a' : Act) (w' : World), fuel + k = l.length → listed.size = l.length → openN l.length listed = fuel → (∀ j, j < l.length → listed.getD j true = true → ∀ o, l[j]? = some o → ∀ e ∈ o.after, Region.binds .any e = true → listed.getD e.on false = true) → InvLV M dd D l a T w0 listed vs k a' w' → wpAny P .any l.toArray Q fuel listed a' w' := by
  have hdone : ∀ (k : Nat) (listed : Array Bool) (vs : Nat → Value) (a' : Act) (w' : World), k = l.length → (∀ j, j < l.length → listed.getD j true = true) → InvLV M dd D l a T w0 listed vs k a' w' → Q .normal a' w' := by
    intro k listed vs a' w' hk hall hi
    subst hk
    have hu : UpTo l a vs 0 a := ⟨rfl, rfl, fun t => by cases prodOf l t <;> simp⟩
    obtain ⟨b, hq, hb⟩ := endAllL_goV (T := T) (w' := w') (Q := fun a' => Q .normal a' w') (vs := vs) (l := l) (a := a)
      (fun j o ho d hd => by
        have := regFit_at l 0 hB j o ho
        unfold opFit at this
        simp only [Bool.and_eq_true, hd, Nat.zero_add] at this
        have h2 := this.1.2
        simp at h2
        exact h2.1)
      (fun j hj => hi.f j hj (hall j hj)) hlk l 0 a (fun _ => undef) (fun j hj => absurd hj (by omega)) (fun j => by simp) hu (hend w' hi.r hi.m)
    have hc : UpTo l a vs l.length a' := ⟨hi.d, hi.s, fun t => by
      rw [hi.t t]
      cases hp : prodOf l t with
      | none => rfl
      | some j =>
        have := prodOf_lt hp
        simp only [hall j this, this, if_true]⟩
    rw [upTo_ext hc hb]
    exact hq
  intro fuel
  induction fuel with
  | zero =>
    intro k listed vs a' w' hk hsz ho _ hi
    have hall : ∀ j, j < l.length → listed.getD j true = true := by
      intro j hj
      cases hlj : listed.getD j true with
      | true => rfl
      | false =>
        have := openN_set hj hlj
        omega
    refine ⟨?_, hdone k listed vs a' w' (by omega) hall hi⟩
    rw [List.eq_nil_iff_forall_not_mem]
    intro i hmem
    rw [mem_ready] at hmem
    obtain ⟨h1, o, ho', _⟩ := hmem
    have : i < l.length := by simpa using (Array.getElem?_eq_some_iff.1 ho').1
    rw [hall i this] at h1
    cases h1
  | succ fuel ih =>
    intro k listed vs a' w' hk hsz ho hcl hi
    refine ⟨fun hnil => ?_, fun i hmem => ?_⟩
    · exfalso
      have least : ∀ j, j < l.length → listed.getD j true = false → False := by
        intro j
        induction j using Nat.strongRecOn with
        | ind j ihj =>
          intro hj hlj
          have hol : l[j]? = some l[j] := List.getElem?_eq_getElem hj
          have hfit := regFit_at l 0 hB j _ hol
          rw [Nat.zero_add] at hfit
          unfold opFit at hfit
          simp only [Bool.and_eq_true] at hfit
          have haft := hfit.2
          have : j ∈ Region.ready .any l.toArray listed := by
            rw [mem_ready]
            refine ⟨hlj, l[j], by simp [hol], fun e he hb => ?_⟩
            rw [Array.all_eq_true_iff_forall_mem] at haft
            have h1 := haft e he
            rw [hb] at h1
            simp at h1
            cases h2 : listed.getD e.on true with
            | false => exact (ihj e.on h1 (by omega) h2).elim
            | true =>
              have h3 : e.on < listed.size := by omega
              simp [h3] at h2 ⊢
              exact h2
          rw [hnil] at this
          cases this
      obtain ⟨j, hj, hlj⟩ := openN_pos (n := l.length) (listed := listed) (by omega)
      exact least j hj hlj
    · rw [mem_ready] at hmem
      obtain ⟨h1, o, ho', h2⟩ := hmem
      have hlt : i < l.length := by simpa using (Array.getElem?_eq_some_iff.1 ho').1
      have hol : l[i]? = some o := by simpa using ho'
      have hfit := regFit_at l 0 hB i o hol
      rw [Nat.zero_add] at hfit
      unfold opFit at hfit
      simp only [Bool.and_eq_true] at hfit
      obtain ⟨⟨⟨⟨hg, hs⟩, hopd⟩, hdst⟩, haft⟩ := hfit
      have hok := opsOkL_atV l 0 hops i o hol
      rw [Nat.zero_add] at hok
      have hfacts : factsOf l a (tysV T) a'.eval w' o o.op.operands.toList := facts_of_invLV hi o _ fun x hx t j hxt hp => by
        subst hxt
        rw [List.all_eq_true] at hopd
        have := hopd _ hx
        simp only [hp, Bool.or_eq_true, beq_iff_eq] at this
        by_cases hdep : depOn o j = true
        case neg =>
          rw [if_neg hdep]
          rcases this with h | h | h
          · exact absurd h hdep
          · rw [h]; exact h1
          · cases hlj : listed.getD j true with
            | false => rfl
            | true =>
              have := reach_listed hcl _ _ _ hlj h (prodOf_lt hp)
              rw [h1] at this; cases this
        rw [if_pos hdep]
        obtain ⟨e, he, hee⟩ := List.any_eq_true.1 hdep
        rw [Array.mem_toList_iff] at he
        simp only [Bool.and_eq_true, beq_iff_eq] at hee
        have h3 := h2 e he hee.2
        rw [hee.1] at h3
        have hj := prodOf_lt hp
        refine ⟨?_, hj, ?_⟩
        · rw [Array.getD_eq_getD_getElem?] at h3 ⊢
          cases hx : listed[j]? with
          | none => rfl
          | some b => rw [hx] at h3; simpa using h3
        · have h4 := hp
          unfold prodOf at h4
          rw [List.findIdx?_eq_some_iff_getElem] at h4
          obtain ⟨_, h5, _⟩ := h4
          have h6 := regFit_at l 0 hB j l[j] (List.getElem?_eq_getElem hj)
          unfold opFit at h6
          simp only [Bool.and_eq_true] at h6
          have h7 := h6.1.2
          have h8 : l[j].dst = some t := by simpa using h5
          rw [h8] at h7
          simp at h7
          exact h7.2
      have hD : (i == dd || reach l l.length dd i) = true → D w' := by
        intro hr
        refine hi.n ?_
        rw [Bool.or_eq_true, beq_iff_eq] at hr
        rcases hr with rfl | hr
        · exact h1
        · cases hlj : listed.getD dd true with
          | false => rfl
          | true =>
            by_cases hdl : dd < l.length
            · have := reach_listed hcl _ _ _ hlj hr hdl
              rw [h1] at this; cases this
            · generalize l.length = n at hr
              cases n with
              | zero => cases hr
              | succ n =>
                unfold reach at hr
                rw [List.getElem?_eq_none (by omega)] at hr
                cases hr
      have hgood := hok k w' a'.eval (by omega) hi.r hi.m hD hfacts
      have hgo : (Region.wanted o (yielded l.toArray a'.tmps) = true ∧ GoodLV P R (fun w'' => M (k + 1) w'' ∧ (i ≠ dd → D w' → D w'')) (tlAtV T i) (lkAV (tlAtV T i) a'.eval) w' ((execOp a'.eval o).run P w')) ∨ (Region.wanted o (yielded l.toArray a'.tmps) = false ∧ M (k + 1) w' ∧ (tlAtV T i).p undef w' ∧ (tlAtV T i).s undef (lkAV (tlAtV T i) a'.eval) w') := by
        cases hgo : o.guard with
        | none =>
          rw [hgo] at hgood
          exact .inl ⟨by simp [Region.wanted, hgo], hgood⟩
        | some g =>
          obtain ⟨j, b⟩ := g
          rw [hgo] at hgood hg
          simp only [Bool.and_eq_true] at hg
          obtain ⟨hg1, hg2⟩ := hg
          obtain ⟨e, he, hee⟩ := List.any_eq_true.1 hg1
          rw [Array.mem_toList_iff] at he
          simp only [Bool.and_eq_true, beq_iff_eq] at hee
          have h3 := h2 e he hee.2
          rw [hee.1] at h3
          have h3' : listed.getD j true = true := by
            rw [Array.getD_eq_getD_getElem?] at h3 ⊢
            cases hx : listed[j]? with
            | none => rfl
            | some b => rw [hx] at h3; simpa using h3
          cases hlj : l[j]? with
          | none => rw [hlj] at hg2; cases hg2
          | some oj =>
            rw [hlj] at hg2
            simp only [Option.isSome_iff_exists] at hg2
            obtain ⟨d, hd⟩ := hg2
            have hjl : j < l.length := (List.getElem?_eq_some_iff.1 hlj).1
            have hfj := regFit_at l 0 hB j oj hlj
            unfold opFit at hfj
            simp only [Bool.and_eq_true, hd, Nat.zero_add] at hfj
            have h4 := hfj.1.2
            simp at h4
            have h5 := hi.t d
            rw [h4.1] at h5
            simp only [h3', if_true, h4.2] at h5
            have hy : yielded l.toArray a'.tmps j = (match vs j with | .bool b => some b | _ => none) := by
              unfold yielded
              simp only [List.getElem?_toArray, hlj, Option.bind_some, hd, h5]
              cases vs j <;> rfl
            have h6 := hgood (vs j) (hi.f j hjl h3').1
            by_cases hv : vs j = .bool b
            · refine .inl ⟨?_, h6.1 hv⟩
              simp [Region.wanted, hgo, hy, hv]
            · refine .inr ⟨?_, h6.2 hv⟩
              simp only [Region.wanted, hgo, hy]
              cases hvj : vs j <;> simp_all
      have hlink : lkAV (tlAtV T i) a'.eval = lkvV l T vs i := by
        unfold lkAV lkvV
        cases hlt : (tlAtV T i).lk with
        | none => rfl
        | some t =>
          obtain ⟨j, hp, hdep, _⟩ := lkFit_atV hlk hol hlt
          simp only [hp]
          obtain ⟨e, he, hee⟩ := List.any_eq_true.1 hdep
          rw [Array.mem_toList_iff] at he
          simp only [Bool.and_eq_true, beq_iff_eq] at hee
          have h3 := h2 e he hee.2
          rw [hee.1] at h3
          have hjt : listed.getD j true = true := by
            rw [Array.getD_eq_getD_getElem?] at h3 ⊢
            cases hx : listed[j]? with
            | none => rfl
            | some b => rw [hx] at h3; simpa using h3
          have hjl := prodOf_lt hp
          have h4 := hp
          unfold prodOf at h4
          rw [List.findIdx?_eq_some_iff_getElem] at h4
          obtain ⟨_, h5, _⟩ := h4
          have h6 := regFit_at l 0 hB j l[j] (List.getElem?_eq_getElem hjl)
          unfold opFit at h6
          simp only [Bool.and_eq_true] at h6
          have h7 := h6.1.2
          have h8 : l[j].dst = some t := by simpa using h5
          rw [h8] at h7
          simp at h7
          have ht := hi.t t
          rw [hp] at ht
          simp only [hjt, if_true, h7.2] at ht
          show a'.tmps.getD t undef = vs j
          rw [Array.getD_eq_getD_getElem?, ht]; rfl
      have hfin : ∀ v w'', R w' w'' → (M (k + 1) w'' ∧ (i ≠ dd → D w' → D w'')) → (tlAtV T i).p v w'' → (tlAtV T i).s v (lkAV (tlAtV T i) a'.eval) w'' → wpAny P .any l.toArray Q fuel (listed.setIfInBounds i true) (a'.put o.dst v) w'' := by
       intro v w'' hr hm hT hS
       rw [hlink] at hS
       have hsame : ∀ j, j < l.length → (listed.getD j true = true ∨ j = i) → lkvV l T (fun j => if j = i then v else vs j) j = lkvV l T vs j := by
         intro j hj hjl
         unfold lkvV
         cases hlt : (tlAtV T j).lk with
         | none => rfl
         | some t =>
           have hoj : l[j]? = some l[j] := List.getElem?_eq_getElem hj
           obtain ⟨q, hp, hdep, hqj⟩ := lkFit_atV hlk hoj hlt
           simp only [hp]
           have hqi : q ≠ i := by
             rcases hjl with hjl | rfl
             · intro e0
               obtain ⟨e, he, hee⟩ := List.any_eq_true.1 hdep
               rw [Array.mem_toList_iff] at he
               simp only [Bool.and_eq_true, beq_iff_eq] at hee
               have h3 := hcl j hj hjl _ hoj e he hee.2
               rw [hee.1, e0] at h3
               have : listed.getD i true = true := by
                 rw [Array.getD_eq_getD_getElem?] at h3 ⊢
                 cases hx : listed[i]? with
                 | none => rfl
                 | some b => rw [hx] at h3; simpa using h3
               rw [h1] at this; cases this
             · omega
           rw [if_neg hqi]
       refine ih (k + 1) _ (fun j => if j = i then v else vs j) _ _ (by omega) (by simpa using hsz) (by have := openN_set hlt h1; omega) ?_ ⟨trans _ _ _ hi.r hr, hm.1, ?_, ?_, ?_, ?_, ?_⟩
       · intro j hj hlj oj hoj e he hb
         by_cases hji : j = i
         · subst hji
           rw [hol] at hoj
           injection hoj with hoj
           subst hoj
           exact getD_set_true (h2 e he hb)
         · rw [getD_set_ne true (Ne.symm hji)] at hlj
           exact getD_set_true (hcl j hj hlj oj hoj e he hb)
       · rw [← hi.d]; cases o.dst <;> rfl
       · rw [← hi.s]; cases o.dst <;> simp [Act.put]
       · intro t
         have ht := hi.t t
         cases hd : o.dst with
         | none =>
           show a'.tmps[t]? = _
           rw [ht]
           cases hp : prodOf l t with
           | none => rfl
           | some j =>
             have hne : j ≠ i := prod_ne hol (by rw [hd]; simp) hp
             simp only [if_neg hne, getD_set_ne true (Ne.symm hne)]
         | some d =>
           rw [hd] at hdst
           simp at hdst
           by_cases hdt : d = t
           · subst hdt
             rw [hdst.1]
             have h3 : (listed.setIfInBounds i true).getD i true = true := by simp [hsz, hlt]
             simp only [h3, if_true, hdst.2]
             show (a'.tmps.setIfInBounds d v)[d]? = _
             rw [Array.getElem?_setIfInBounds_self, hi.s, if_pos hdst.2]
           · show (a'.tmps.setIfInBounds d v)[t]? = _
             rw [Array.getElem?_setIfInBounds_ne hdt, ht]
             cases hp : prodOf l t with
             | none => rfl
             | some j =>
               have hne : j ≠ i := prod_ne hol (by rw [hd]; simpa using hdt) hp
               simp only [if_neg hne, getD_set_ne true (Ne.symm hne)]
       · intro j hj hlj
         by_cases hji : j = i
         · rw [hsame j hj (.inr hji)]
           subst hji
           exact ⟨by simpa using hT, by rw [if_pos rfl]; exact hS⟩
         · rw [getD_set_ne true (Ne.symm hji)] at hlj
           rw [hsame j hj (.inl hlj)]
           simp only [if_neg hji]
           exact ⟨(tlAtV T j).up _ _ _ hr (hi.f j hj hlj).1, (tlAtV T j).us _ _ _ _ hr (hi.f j hj hlj).2⟩
       · intro hn
         have hne : dd ≠ i := by
           intro e0
           subst e0
           rw [show (listed.setIfInBounds dd true).getD dd true = true by simp [hsz, hlt]] at hn
           cases hn
         rw [getD_set_ne true (Ne.symm hne)] at hn
         exact hm.2 (Ne.symm hne) (hi.n hn)
      unfold wpOp
      simp only [ho']
      rcases hgo with ⟨hw, hgd⟩ | ⟨hw, hm, hT, hS⟩
      · rw [if_pos hw]
        exact .inl (oper_wp_of_goodLV hgd hfin)
      · rw [if_neg (by rw [hw]; simp)]
        exact hfin undef w' (hrefl _) ⟨hm, fun _ h => h⟩ hT hS

/-- the law. -/
theorem wp_region_everLV {M : Nat → World → Prop} {l : List Oper} {a : Act} {w : World} {Q : Exit → Act → World → Prop} {id : Nat} (d : Nat) (D : World → Prop) (T : List (TlV R)) (hm : P.follows .mixedOrders = true) (hrefl : ∀ a, R a a) (trans : ∀ a b c, R a b → R b c → R a c)
    (hB : regFit l a.tmps.size 0 l = true) (hlk : lkFitV l T = true) (h0 : M 0 w.drew) (hD0 : D w.drew) (hops : OpsOkLV P R M d D l a T w.drew 0 l) (hend : ∀ w', R w.drew w' → M l.length w' → EndAllLV l T w' (fun a' => Q .normal a' w') 0 l a (fun _ => undef)) : (Code.region id l.toArray true).wp P Q a w := by
  refine wp_region_any hm ?_
  refine wpAny_everLV (M := M) (dd := d) (D := D) (T := T) (w0 := w.drew) hrefl trans hB hlk hops hend _ 0 _ (fun _ => undef) a _ (by simp) (by simp) (by simp [openN_all]) (fun j hj h => by simp [hj] at h) ⟨hrefl _, h0, rfl, rfl, fun t => ?_, fun j hj h => ?_, fun _ => hD0⟩
  · cases hp : prodOf l t with
    | none => rfl
    | some j =>
      have := prodOf_lt hp
      simp [this]
  · simp [hj] at h

theorem goodL_ofV {M : World → Prop} {T : TlV R} {u : Value} {w : World} {r : Result Next} (hs : ∀ v w, T.s v u w) (h : ∀ K : Value → World → Prop, (∀ v w'', R w w'' → M w'' → T.p v w'' → K v w'') → GoodK P K r) : GoodLV P R M T u w r := by
  have := h (fun v w'' => R w w'' ∧ M w'' ∧ T.p v w'' ∧ T.s v u w'') (fun v w'' h1 h2 h3 => ⟨h1, h2, h3, hs _ _⟩)
  cases r with
  | ok n w' => cases n <;> exact this
  | halt x w' => exact this
theorem goodL_ofsV {M : World → Prop} {T : TlV R} {u : Value} {w : World} {r : Result Next} (h : ∀ K : Value → World → Prop, (∀ v w'', R w w'' → M w'' → T.p v w'' → T.s v u w'' → K v w'') → GoodK P K r) : GoodLV P R M T u w r := by
  have := h (fun v w'' => R w w'' ∧ M w'' ∧ T.p v w'' ∧ T.s v u w'') (fun v w'' h1 h2 h3 h4 => ⟨h1, h2, h3, h4⟩)
  cases r with
  | ok n w' => cases n <;> exact this
  | halt x w' => exact this

end

end Go.Proofs.YtdngdlcibaiekaaGreatDoor

namespace Go.Proofs.YtdngdlcibaiekaaGreatDoor
open Go.RowKit
set_option linter.unusedVariables false

def isCh (v : Value) : Prop := ∃ (a c : Int) (t : List UInt8), v = .agg #[.int .i64 a, .int .i64 c, S t] ∧ t.length ≤ 260
def isStr (v : Value) : Prop := ∃ t : List UInt8, v = S t
def isInt (v : Value) : Prop := ∃ x : Int, v = .int .i64 x
/-- the world goes on: old blocks but g and d are as they were; block d is as it was, or it held V0 and holds something else now. -/
structure RG (g d : Nat) (V0 : Value) (a b : World) : Prop where
  os : b.os = a.os
  tape : b.tape = a.tape
  output : b.output = a.output
  size : a.heap.size ≤ b.heap.size
  block : ∀ i, i < a.heap.size → i ≠ g → i ≠ d → b.heap[i]? = a.heap[i]?
  dd : b.heap[d]? = a.heap[d]? ∨ a.cell? ⟨d, 0, none⟩ = some V0
section
variable {g d : Nat} {V0 : Value} {a b c : World}
theorem RG.refl (g d : Nat) (V0 : Value) (a : World) : RG g d V0 a a := ⟨rfl, rfl, rfl, Nat.le_refl _, fun _ _ _ _ => rfl, .inl rfl⟩
theorem RG.trans (h : RG g d V0 a b) (k : RG g d V0 b c) : RG g d V0 a c := ⟨k.os.trans h.os, k.tape.trans h.tape, k.output.trans h.output, Nat.le_trans h.size k.size,
  fun i hi h1 h2 => (k.block i (Nat.lt_of_lt_of_le hi h.size) h1 h2).trans (h.block i hi h1 h2), by
  rcases h.dd with h1 | h1
  · rcases k.dd with k1 | k1
    · exact .inl (k1.trans h1)
    · exact .inr ((World.cell?_of_block (a := ⟨d, 0, none⟩) h1).symm.trans k1)
  · exact .inr h1⟩
theorem RG.of_drew (h : RG g d V0 a.drew b) : RG g d V0 a b := ⟨h.os, h.tape, h.output, h.size, h.block, h.dd⟩
theorem RG.of_below (hd : d < b.heap.size) (k : Below b.heap.size b c) : RG g d V0 b c := ⟨k.os, k.tape, k.output, k.size, fun i hi _ _ => k.block i hi, .inl (k.block d hd)⟩
theorem RG.of_grown (hd : d < b.heap.size) (hg : d ≠ g) (k : b.grownBy c (some g)) : RG g d V0 b c := ⟨k.os, k.tape, k.output, k.size, fun i hi h1 _ => k.block i hi (by simpa using h1), .inl (k.block d hd (by simpa using hg))⟩
theorem RG.own {bs n : Nat} {v : Value} {e : TypeId} {size : Nat} {xs : List Value} (h : RG g d V0 a b) (ho : Own a bs e size v n xs) (h1 : v.ownBlock ≠ some g) (h2 : v.ownBlock ≠ some d) : Own b bs e size v n xs := by
  refine ⟨ho.1, ?_⟩
  rcases ho.2 with hn | ⟨x, cap, cur, rfl, hbg, hgg, rest⟩
  · exact .inl hn
  · refine .inr ⟨x, cap, cur, rfl, hbg, ?_, rest⟩
    rw [h.block x (Array.getElem?_eq_some_iff.1 hgg).1 (fun e => h1 (by rw [← e]; rfl)) (fun e => h2 (by rw [← e]; rfl))]
    exact hgg
theorem RG.to_grown {w : World} (h : RG g d V0 a b) (hw : w.grownBy a (some g)) (hd : w.heap.size ≤ d) : w.grownBy b (some g) :=
  ⟨h.os.trans hw.os, h.tape.trans hw.tape, h.output.trans hw.output, Nat.le_trans hw.size h.size, fun i hi h1 => (h.block i (Nat.lt_of_lt_of_le hi hw.size) (by simpa using h1) (by omega)).trans (hw.block i hi h1)⟩
theorem own_near {w : World} {bs n x : Nat} {v : Value} {e : TypeId} {size : Nat} {xs : List Value} (ho : Own w bs e size v n xs) (h : w.heap.size ≤ x) : v.ownBlock ≠ some x := fun e => by
  have := (ho.lt x e).2
  omega
theorem own_far {w : World} {bs n x : Nat} {v : Value} {e : TypeId} {size : Nat} {xs : List Value} (ho : Own w bs e size v n xs) (h : x < bs) : v.ownBlock ≠ some x := fun e => by
  have := (ho.lt x e).1
  omega
end
section
variable (B g d : Nat) (hg : g < B) (hd : d < B) (V0 : Value)
def gAny : Ty (RG g d V0) := ⟨fun _ _ => True, fun _ _ _ _ h => h⟩
def gOf (e : Value → Prop) : Ty (RG g d V0) := ⟨fun v _ => e v, fun _ _ _ _ h => h⟩
def gEq (u : Value) : Ty (RG g d V0) := ⟨fun v _ => v = u, fun _ _ _ _ h => h⟩
/-- what the call gives. -/
def gTup : Ty (RG g d V0) := ⟨fun v w => ∃ u ms a t ok o, v = .tuple #[.agg #[u, .int .i64 a], S t, .bool ok] ∧ OwnM w B u ms ∧ HGood ms a t o, fun _ _ _ hR ⟨u, ms, a, t, ok, o, hv, h, hh⟩ => ⟨u, ms, a, t, ok, o, hv, hR.own h (own_far h hg) (own_far h hd), hh⟩⟩
/-- a history of the region's own. -/
def gHis : Ty (RG g d V0) := ⟨fun v w => ∃ u ms a t o, v = .agg #[u, .int .i64 a] ∧ OwnM w B u ms ∧ HGood ms a t o, fun _ _ _ hR ⟨u, ms, a, t, o, hv, h, hh⟩ => ⟨u, ms, a, t, o, hv, hR.own h (own_far h hg) (own_far h hd), hh⟩⟩
/-- the value is the k-th of the tuple in slot t. -/
def gExt (T : Ty (RG g d V0)) (t : Nat) (k : Nat) : TlV (RG g d V0) := { T with
  lk := some t
  s := fun v u _ => ∀ x y z, u = .tuple #[x, y, z] → v = (#[x, y, z][k]?).getD undef
  us := fun _ _ _ _ _ h => h }
/-- the value is that of slot t. -/
def gSame (T : Ty (RG g d V0)) (t : Nat) : TlV (RG g d V0) := { T with
  lk := some t
  s := fun v u _ => v = u
  us := fun _ _ _ _ _ h => h }
/-- the history of slot t is stored in box d. -/
def gPut (t : Nat) : TlV (RG g d V0) := { gAny g d V0 with
  lk := some t
  s := fun _ u w => ∀ u0 y, u = .agg #[u0, .int .i64 y] → u0 ≠ V0 → d < w.heap.size ∧ Is w d #[u0, .int .i64 y]
  us := fun _ u w w' hR h u0 y hu hne => by
    obtain ⟨h1, h2⟩ := h u0 y hu hne
    refine ⟨Nat.lt_of_lt_of_le h1 hR.size, ?_⟩
    rcases hR.dd with h3 | h3
    · exact h2.of_block h3
    · have h4 := h2.1 0
      rw [h3] at h4
      exact absurd (by simpa using h4.symm) hne }
end
section
variable {g d : Nat} {V0 : Value} {w : World}
theorem gput_mk {A0 : Value} {u : Value} {y : Int} (hI : Is w d #[V0, A0]) : Is ((w.setCell ⟨d, 0, none⟩ u).setCell ⟨d, 1, none⟩ (.int .i64 y)) d #[u, .int .i64 y] ∧ RG g d V0 w ((w.setCell ⟨d, 0, none⟩ u).setCell ⟨d, 1, none⟩ (.int .i64 y)) :=
  ⟨put_is (V := #[u, .int .i64 y]) hI rfl, rfl, rfl, rfl, by simp [World.setCell], fun i _ _ h2 => (Below.heap_setCell _ ⟨d, 1, none⟩ _ i h2).trans (Below.heap_setCell w ⟨d, 0, none⟩ u i h2), .inr (hI.1 0)⟩
theorem own_new {B n : Nat} {u : Value} {e : TypeId} {size : Nat} {xs : List Value} (h : Own w B e size u n xs) (hn : 0 < n) (hV : ∀ k, V0.ownBlock = some k → k < B) : u ≠ V0 := by
  rintro rfl
  rcases h.2 with ⟨_, rfl⟩ | ⟨x, cap, cur, rfl, hbx, _⟩
  · omega
  · have := hV x rfl
    omega
theorem gput_rdr {n q : Nat} {zs : List Int} (h : Rdr w g n zs q) (hgd : g < d) (u y : Value) : Rdr ((w.setCell ⟨d, 0, none⟩ u).setCell ⟨d, 1, none⟩ y) g n zs q := by
  refine Rdr.below h ?_
  refine Below.setCell ?_ (by show g + 1 ≤ d; omega) _
  refine Below.setCell ?_ (by show g + 1 ≤ d; omega) _
  exact Below.refl _ _
/-- the reader's fact and the box's, behind calls that make memory. -/
theorem MR.up {n : Nat} {zs : List Int} {p C k : Nat} {w' : World} (h : MR g n zs p C k w) (hb : Below w.heap.size w w') : MR g n zs p C (k + 1) w' := by
  obtain ⟨q, hq, hr⟩ := h
  exact ⟨q, by rw [Nat.mul_add]; omega, hr.up hb⟩
end

end Go.Proofs.YtdngdlcibaiekaaGreatDoor

namespace Go.Proofs.YtdngdlcibaiekaaGreatDoor
open Go.RowKit
set_option linter.unusedVariables false

theorem own_cellX {w : World} {base : Nat} {e : TypeId} {size g n cap j : Nat} {xs : List Value} (h : Own w base e size (.slice (some ⟨g, 0, none⟩) n cap) n xs) (hj : j < n * size) : ∃ u, w.cell? ⟨g, j, none⟩ = some u := by
  rw [h.cellAt j hj]
  exact ⟨_, List.getElem?_eq_getElem (by rw [h.1]; exact hj)⟩
theorem last_of {ms : List Mo} {j : Nat} (h : ms.length = j + 1) : ∃ init m, ms = init ++ [m] ∧ init.length = j := by
  refine ⟨ms.take j, ms[j], ?_, by rw [List.length_take]; omega⟩
  have := List.take_succ_eq_append_getElem (show j < ms.length by omega)
  rw [← this, ← h, List.take_length]
/-- small texts. -/
def PutsLe (K : Nat) (ms : List Mo) : Prop := ∀ m ∈ ms, m.f.p.length ≤ K ∧ m.b.p.length ≤ K
theorem puts_good {ms : List Mo} {a : Int} {s : List UInt8} {o : List (List UInt8)} (hg : HGood ms a s o) : PutsLe 120 ms := fun m hm => by
  obtain ⟨k, hk, rfl⟩ := List.getElem_of_mem hm
  have := hg.put hk
  rwa [getD_at ms m0 k hk] at this
theorem set_par {ms : List Mo} {j K : Nat} (h : ms.length = j + 1) (x : Int) (hp : PutsLe K ms) : ∃ ns : List Mo, ns.length = ms.length ∧ (ms.flatMap moC).set (j * 7) (.int .i64 x) = ns.flatMap moC ∧ PutsLe K ns := by
  obtain ⟨init, m, rfl, hl⟩ := last_of h
  have hf : (init.flatMap moC).length = j * 7 := by rw [flat_len moC 7 moC_len, hl]
  refine ⟨init ++ [⟨x, m.f, m.b⟩], by simp, ?_, fun y hy => ?_⟩
  · rw [List.flatMap_append, List.set_append, if_neg (by omega), hf, Nat.sub_self, List.flatMap_append]
    rfl
  · rw [List.mem_append, List.mem_singleton] at hy
    rcases hy with hy | rfl
    · exact hp y (List.mem_append_left _ hy)
    · exact hp m (by simp)
theorem set_put {ms : List Mo} {j K : Nat} (h : ms.length = j + 1) (t : List UInt8) (ht : t.length ≤ K) (hp : PutsLe K ms) : ∃ ns : List Mo, ns.length = ms.length ∧ (ms.flatMap moC).set (j * 7 + 6) (S t) = ns.flatMap moC ∧ PutsLe K ns := by
  obtain ⟨init, m, rfl, hl⟩ := last_of h
  have hf : (init.flatMap moC).length = j * 7 := by rw [flat_len moC 7 moC_len, hl]
  refine ⟨init ++ [⟨m.par, m.f, ⟨m.b.a, m.b.c, t⟩⟩], by simp, ?_, fun y hy => ?_⟩
  · rw [List.flatMap_append, List.set_append, if_neg (by omega), hf, show j * 7 + 6 - j * 7 = 6 by omega, List.flatMap_append]
    rfl
  · rw [List.mem_append, List.mem_singleton] at hy
    rcases hy with hy | rfl
    · exact hp y (List.mem_append_left _ hy)
    · exact ⟨(hp m (by simp)).1, ht⟩
theorem rdM_puts {w : World} {base K : Nat} {v : Value} {ms : List Mo} (h : OwnM w base v ms) (hp : PutsLe K ms) (hK : K ≤ 1048576) : RdM w v ms := ⟨RdL.of_own h, fun m hm => by have := hp m hm; omega⟩
theorem is_set1 {w : World} {d : Nat} {V A u : Value} (h : Is w d #[V, A]) : Is (w.setCell ⟨d, 1, none⟩ u) d #[V, u] := by
  refine ⟨fun o => ?_, fun o => by rw [World.frozen?_setCell]; exact h.2 o⟩
  by_cases ho : o = 1
  · subst ho
    rw [World.cell?_setCell_same w ⟨d, 1, none⟩ u (h.1 1)]
    rfl
  · rw [World.cell?_setCell_other w ⟨d, 1, none⟩ ⟨d, o, none⟩ u (fun e => ho (by injection e with _ e _; exact e.symm)), h.1 o]
    match o, ho with
    | 0, _ => rfl
    | o + 2, _ => rfl
theorem is_set0 {w : World} {d : Nat} {V A u : Value} (h : Is w d #[V, A]) : Is (w.setCell ⟨d, 0, none⟩ u) d #[u, A] := by
  refine ⟨fun o => ?_, fun o => by rw [World.frozen?_setCell]; exact h.2 o⟩
  by_cases ho : o = 0
  · subst ho
    rw [World.cell?_setCell_same w ⟨d, 0, none⟩ u (h.1 0)]
    rfl
  · rw [World.cell?_setCell_other w ⟨d, 0, none⟩ ⟨d, o, none⟩ u (fun e => ho (by injection e with _ e _; exact e.symm)), h.1 o]
    match o, ho with
    | o + 1, _ => rfl

theorem rs_own {L : List Nat} {a b : World} {bs n : Nat} {v : Value} {e : TypeId} {size : Nat} {xs : List Value} (h : RS L a b) (ho : Own a bs e size v n xs) (h1 : ∀ x, v.ownBlock = some x → x ∉ L) : Own b bs e size v n xs := by
  refine ⟨ho.1, ?_⟩
  rcases ho.2 with hn | ⟨x, cap, cur, rfl, hbg, hgg, rest⟩
  · exact .inl hn
  · refine .inr ⟨x, cap, cur, rfl, hbg, ?_, rest⟩
    rw [h.block x (Array.getElem?_eq_some_iff.1 hgg).1 (h1 x rfl)]
    exact hgg
theorem rdM_tail {w : World} {b n cap K : Nat} {ms : List Mo} (h : RdL w 7 moC (.slice (some ⟨b, 0, none⟩) n cap) ms) (hn : ms.length = n) (hc : 1 < cap) (hp : PutsLe K ms) (hK : K ≤ 1048576) : RdM w (.slice (some ⟨b, 7, none⟩) (n - 1) (cap - 1)) ms.tail := by
  refine ⟨?_, fun m hm => by have := hp m (List.mem_of_mem_tail hm); omega⟩
  obtain ⟨h1, h2, A, c, he, h3, h4⟩ := h
  injection he with he1 he2 he3
  subst he1 he3
  refine ⟨flat_len moC 7 moC_len _, by simp; omega, some ⟨b, 7, none⟩, cap - 1, by rw [List.length_tail, hn], by rw [List.length_tail]; omega, fun hl => ?_⟩
  rw [List.length_tail] at hl
  obtain ⟨b', o', hA, hb, hcell⟩ := h4 (by omega)
  injection hA with hA
  injection hA with hA1 hA2 _
  subst hA1 hA2
  refine ⟨b, 7, rfl, hb, fun j u hu => ?_⟩
  have := hcell (7 + j) u (by
    cases ms with
    | nil => simp at hl
    | cons m rest =>
      rw [List.flatMap_cons, List.getElem?_append_right (by rw [moC_len]; omega), moC_len, show 7 + j - 7 = j by omega]
      exact hu)
  rwa [Nat.zero_add] at this
theorem rdMo_none {w : World} (A : Option Addr) (c : Nat) : RdM w (.slice A 0 c) [] := ⟨⟨rfl, Nat.zero_le _, A, c, rfl, Nat.zero_le _, fun h => absurd h (by simp)⟩, fun m hm => by cases hm⟩
theorem rdr_set {w : World} {g n q : Nat} {zs : List Int} (h : Rdr w g n zs q) (p : Addr) (u : Value) (hp : g < p.block) : Rdr (w.setCell p u) g n zs q := by
  refine Rdr.below h ?_
  refine Below.setCell ?_ (by show g + 1 ≤ p.block; omega) _
  exact Below.refl _ _

end Go.Proofs.YtdngdlcibaiekaaGreatDoor

namespace Go.Proofs.YtdngdlcibaiekaaGreatDoor
open Go.RowKit
set_option linter.unusedVariables false

/-- in the loop of l20History: box d holds a valid history of the text ls; box r is the result's. -/
def HLoop (g n : Nat) (zs : List Int) (p d r B : Nat) (w : World) (k : Nat) (ls : List UInt8) (wr : World) : Prop :=
  ∃ (q : Nat) (ms : List Mo) (a : Int) (o : List (List UInt8)) (v : Value), HGood ms a ls o ∧ Is wr d #[v, .int .i64 a] ∧ OwnM wr B v ms ∧ v.ownBlock ≠ some d ∧ Is wr r #[.slice none 0 0, .int .i64 0] ∧ d < wr.heap.size ∧ q + 1000 * k ≤ p + 9000 ∧ Rdr wr g n zs q ∧ w.grownBy wr (some g)
theorem hloop_put {g n : Nat} {zs : List Int} {p d r B q k : Nat} {w wr : World} {u A0 A1 : Value} {ms : List Mo} {a : Int} {t : List UInt8} {o : List (List UInt8)} (hi : Is wr d #[A0, A1]) (hr : Is wr r #[.slice none 0 0, .int .i64 0]) (hd : d < wr.heap.size) (hq : q + 1000 * k ≤ p + 9000) (hrd : Rdr wr g n zs q) (hgr : w.grownBy wr (some g))
    (hg : HGood ms a t o) (ho : OwnM wr B u ms) (hne : u.ownBlock ≠ some d) (hgd : g < d) (hrd2 : r ≠ d) (hwd : w.heap.size ≤ d) : HLoop g n zs p d r B w k t ((wr.setCell ⟨d, 0, none⟩ u).setCell ⟨d, 1, none⟩ (.int .i64 a)) :=
  ⟨q, ms, a, o, u, hg, put_is (V := #[u, .int .i64 a]) hi rfl, own_setn (own_setn ho ⟨d, 0, none⟩ u fun x hx e => hne (by rw [hx]; exact congrArg some e)) ⟨d, 1, none⟩ _ fun x hx e => hne (by rw [hx]; exact congrArg some e), hne,
    hr.of_block ((Below.heap_setCell _ ⟨d, 1, none⟩ _ r hrd2).trans (Below.heap_setCell wr ⟨d, 0, none⟩ u r hrd2)), by simpa [World.setCell] using hd, hq, gput_rdr hrd hgd _ _, gb_set (gb_set hgr ⟨d, 0, none⟩ u hwd) ⟨d, 1, none⟩ _ hwd⟩

/-- what l20History gives. -/
def L20HPost (g n : Nat) (zs : List Int) (p : Nat) (w : World) (e : Ending) (w' : World) : Prop :=
  ∃ (v : Value) (ms : List Mo) (a : Int) (s : List UInt8), e = .returned (.tuple #[.agg #[v, .int .i64 a], S s]) ∧ RdM w' v ms ∧ ms.length ≤ 30 ∧ s.length ≤ 130 ∧ (∀ x, v.ownBlock = some x → w.heap.size ≤ x) ∧ v ≠ .slice none 0 0 ∧ (∃ q, q ≤ p + 10000 ∧ Rdr w' g n zs q) ∧ w.grownBy w' (some g)

set_option maxRecDepth 100000 in
set_option maxHeartbeats 4000000 in
theorem l20History_any (g n : Nat) (zs : List Int) (p : Nat) (m : Int) (w : World) (hr : Rdr w g n zs p) (hp : p < 1000000) :
    Calls Tryz.prog 68 #[.pointer (some ⟨g, 0, none⟩), .int .i64 m] w (L20HPost g n zs p w) := by
  have hg := hr.lt
  have hW := World.grownBy.refl w (some g)
  go_enter Tryz.func68, Tryz.ntmps68
  go_wp2_with fail
  refine (l20Text0_any _ _ _ _ _ (hr.up (by (repeat (first | exact Below.refl _ _ | assumption | refine Below.drew ?_ | refine up_drewN ?_ _ | refine up_alloc ?_ _ | refine up_set ?_ _ _ (by first | exact Nat.le_refl _ | (simp; done) | (simp; omega) | omega) | refine up_trans ?_ (by assumption))))) (by omega)).mono ?_
  rintro e w1 ⟨s0, rfl, ht0, ⟨q1, hq1, hr1⟩, hb⟩
  have hG : w.grownBy w1 (some g) := (by (repeat (first | exact World.grownBy.refl _ _ | assumption | refine gb_drew ?_ | refine gb_drewN ?_ _ | refine gb_alloc ?_ _ | refine gb_here ?_ rfl _ | refine gb_set ?_ _ _ (by first | exact Nat.le_refl _ | (simp; done) | (simp; omega) | omega) | refine gb_trans ?_ (by assumption) | refine gb_below ?_ (by assumption)))); have sw1 := hG.size; replace hW := gb_trans hW hG; clear hG
  have rc : ∀ o, w1.cell? ⟨w.heap.size, o, none⟩ = #[.slice none 0 0, .int .i64 0][o]? := gup_c hb (by simp <;> omega) (by omega) (fun o => by simp [go_sem]); have rf : ∀ o, w1.frozen? ⟨w.heap.size, o, none⟩ = false := gup_f hb (by simp <;> omega) (by omega) (fun o => by simp [go_sem]); have rz : w.heap.size < w1.heap.size := (by have := hb.size; (try simp at this); omega); have ry := rz
  have hs1 : w.heap.size < w1.heap.size := by omega
  have HT := Lib.hid ht0
  clear hb hr ht0 ry
  go_wp2_with fail
  refine (specHistoryOf_any _).mono ?_
  rintro e w2 ⟨v2, rfl, ho2, hb⟩
  have hG : w1.grownBy w2 (some g) := (by (repeat (first | exact World.grownBy.refl _ _ | assumption | refine gb_drew ?_ | refine gb_drewN ?_ _ | refine gb_alloc ?_ _ | refine gb_here ?_ rfl _ | refine gb_set ?_ _ _ (by first | exact Nat.le_refl _ | (simp; done) | (simp; omega) | omega) | refine gb_trans ?_ (by assumption) | refine gb_below ?_ (by assumption)))); replace rc := gup_c hG rz (by omega) rc; replace rf := gup_f hG rz (by omega) rf; replace rz := Nat.lt_of_lt_of_le rz hG.size; have sw2 := hG.size; replace hW := gb_trans hW hG; clear hG
  have hr2 := hr1.up hb
  obtain ⟨A2, c2, rfl, -, -⟩ := (RdL.of_own (f := moC) (bs := [m0]) ho2).form
  simp only [List.length_cons, List.length_nil, Nat.zero_add] at ho2 ⊢
  have HO := Lib.hid ho2
  clear hb hr1 ho2
  go_wp2_with fail
  refine (pick_any _ _ _ _ _ _ (hr2.up (by (repeat (first | exact Below.refl _ _ | assumption | refine Below.drew ?_ | refine up_drewN ?_ _ | refine up_alloc ?_ _ | refine up_set ?_ _ _ (by first | exact Nat.le_refl _ | (simp; done) | (simp; omega) | omega) | refine up_trans ?_ (by assumption))))) (by omega)).mono ?_
  rintro e w3 ⟨x3, rfl, h1, h2, hr3, hb⟩
  have bd := hb.block w2.heap.size (by simp) (by simp; omega)
  have br := hb.block w.heap.size (by simp; omega) (by simp; omega)
  have hx3 := h1 (by omega)
  have HL : Hid (HLoop g n zs p w2.heap.size w.heap.size (w.heap.size + 1) w x3.toNat s0 w3) := Lib.hid (by
    have o2 := HO.out
    refine ⟨q1 + 1, [m0], 0, [s0], .slice A2 1 c2, good_one HT.out, (new_is w2 _ _).of_block bd, own_base (gup_own (own_up o2 (up_alloc (Below.refl _ _) _)) hb (by omega)) (by omega), own_near o2 (Nat.le_refl _), ?_, ?_, by omega, hr3, gb_trans (gb_alloc hW _) hb⟩
    · exact (Is.up (⟨rc, rf⟩ : Is w2 w.heap.size #[.slice none 0 0, .int .i64 0]) rz (up_alloc (Below.refl _ _) _)).of_block br
    · have := hb.size; simp at this; omega)
  have hgd : g < w2.heap.size := by omega
  have hrd : w.heap.size ≠ w2.heap.size := by omega
  have hwd : w.heap.size ≤ w2.heap.size := by omega
  obtain ⟨k3, rfl⟩ : ∃ k3 : Nat, x3 = k3 := ⟨x3.toNat, by omega⟩
  have hk3 : k3 ≤ 8 := by omega
  rw [Int.toNat_natCast] at HL
  clear hb hr2 hr3 h1 h2 rc rf rz HO HT bd br hx3 hW
  generalize w2.heap.size = d at *
  go_wp2_with fail
  go_loopw [6, 8] (fun s i wr => ∃ (k : Nat) (ls : List UInt8), k ≤ 8 ∧ i = .int .i64 k ∧ s = S ls ∧ Hid (HLoop g n zs p d w.heap.size (w.heap.size + 1) w k ls wr)) (fun _ i _ => (intOf i).toNat)
  case atStart => exact ⟨k3, s0, hk3, rfl, rfl, HL⟩
  case round =>
    obtain ⟨k, ls, hk, rfl, rfl, HL⟩ := hrel
    obtain ⟨q, ms0, a0, o0, v0, hg0, hi0, ho0, hn0, hir, hdz, hq, hrw, hgr⟩ := HL.out
    clear HL
    obtain ⟨VA, VC, rfl, -, -⟩ := (RdL.of_own (f := moC) (bs := ms0) ho0).form
    have hls := tv_len hg0.t
    by_cases h0 : 0 < k
    · have i1 : (0 : Int) < (k : Int) := by omega
      have HG0 := Lib.hid hg0
      have HI0 := Lib.hid hi0
      have HO0 := Lib.hid ho0
      have HIR := Lib.hid hir
      clear hg0 hi0 ho0 hir
      go_wp2_with fail
      refine (pick_any _ _ _ _ _ _ (hrw.up (by (repeat (first | exact Below.refl _ _ | assumption | refine Below.drew ?_ | refine up_drewN ?_ _ | refine up_alloc ?_ _ | refine up_set ?_ _ _ (by first | exact Nat.le_refl _ | (simp; done) | (simp; omega) | omega) | refine up_trans ?_ (by assumption))))) (by omega)).mono ?_
      rintro e w4 ⟨x4, rfl, h1, h2, hr4, hb⟩
      have hx4 := h1 (by omega)
      have hrs : w.heap.size < wr.heap.size := by omega
      have hi4 := HI0.out.of_block (hb.block d hdz (by simp; omega))
      have ho4 := gup_own HO0.out hb (by omega)
      have hir4 := HIR.out.of_block (hb.block w.heap.size hrs (by simp; omega))
      have hdz4 := Nat.lt_of_lt_of_le hdz hb.size
      have hgr4 := gb_trans hgr hb
      have hs4' : w.heap.size < w4.heap.size := by have := hb.size; omega
      have hgn : (Value.slice VA ms0.length VC).ownBlock ≠ some g := own_far ho4 (by omega)
      have hrn : (Value.slice VA ms0.length VC).ownBlock ≠ some w.heap.size := own_far ho4 (by omega)
      clear hb h1 h2 hrw hgr hdz HI0 HO0 HIR hrs
      by_cases e0 : x4 = 0
      · subst e0
        have dc := hi4.1
        have df := hi4.2
        have H4 := Lib.hid hi4
        have HIR := Lib.hid hir4
        have HRD := Lib.hid (rdM_good ho4 HG0.out)
        clear hi4 hir4 ho4
        go_wp2_with fail
        refine (specBack_good _ ms0 a0 ls _ o0 HRD.out HG0.out).mono ?_
        rintro e w5 ⟨u, ms1, a1, t1, ok1, o1, rfl, ho5, hg5, hb⟩
        have dc5 := up_c hb hdz4 dc
        have df5 := up_f hb hdz4 df
        obtain ⟨UA, UC, rfl, -, -⟩ := (RdL.of_own (f := moC) (bs := ms1) ho5).form
        have hs5 := hb.size
        have HL : Hid (HLoop g n zs p d w.heap.size (w.heap.size + 1) w (k - 1) t1 ((w5.setCell ⟨d, 0, none⟩ (.slice UA ms1.length UC)).setCell ⟨d, 1, none⟩ (.int .i64 a1))) :=
          Lib.hid (hloop_put (H4.out.up hdz4 hb) (HIR.out.up hs4' hb) (by omega) (by omega : (q + 1) + 1000 * (k - 1) ≤ p + 9000) (hr4.up hb) (gb_below hgr4 hb) hg5 (own_base ho5 (by omega)) (own_far ho5 hdz4) hgd hrd hwd)
        clear hb ho5 hg5 H4 HIR HRD hr4 hgr4 HG0 dc df
        go_wp2_with fail
        go_roundw
        case rel => exact ⟨k - 1, t1, by omega, by rw [show ((k - 1 : Nat) : Int) = (k : Int) - 1 by omega], rfl, HL⟩
        case measure => simp [intOf]; omega
      · obtain ⟨W0, rfl⟩ : ∃ z, z = w4 := ⟨_, rfl⟩
        obtain ⟨qq, hqq⟩ : ∃ z, z = q + 1 := ⟨_, rfl⟩
        rw [← hqq] at hr4
        have hqb : qq ≤ p + 9000 := by omega
        have hgB : g < W0.heap.size := by omega
        have hdB : d < W0.heap.size := hdz4
        have MM : MR g n zs qq 60 0 W0.drew := MR.drew ⟨qq, by omega, hr4⟩
        have DD : Is W0.drew d #[.slice VA ms0.length VC, .int .i64 a0] := hi4
        have HV := Lib.hid (show OwnM W0 (w.heap.size + 1) (.slice VA ms0.length VC) ms0 ∧ HGood ms0 a0 ls o0 ∧ (Value.slice VA ms0.length VC).ownBlock ≠ some g ∧ (Value.slice VA ms0.length VC).ownBlock ≠ some d from ⟨ho4, HG0.out, hgn, hn0⟩)
        have HIR := Lib.hid hir4
        have HVB := Lib.hid (show ∀ x, (Value.slice VA ms0.length VC).ownBlock = some x → x < W0.heap.size from fun x hx => (ho4.lt x hx).2)
        clear hi4 hir4 ho4 hr4 hgn hn0 HG0 hrn
        by_cases e1 : x4 = 1
        · subst e1
          clear e0
          go_wp2_with fail
          --EVER{spec.l20History;11;l20h11}
          refine wp_region_everLV (R := RG g d (.slice VA ms0.length VC)) (M := fun k w => MR g n zs qq 60 k w) 12 (fun w => Is w d #[.slice VA ms0.length VC, .int .i64 a0]) [(gEq g d _ (.agg #[.slice VA ms0.length VC, .int .i64 a0])).lV, (gEq g d _ (S ls)).lV, (gEq g d _ (.pointer (some ⟨g, 0, none⟩))).lV, (gEq g d _ (.pointer (some ⟨d, 0, none⟩))).lV, (gEq g d _ (.slice VA ms0.length VC)).lV, (gEq g d _ (.int .i64 ms0.length)).lV, (gOf g d _ isInt).lV, (gTup W0.heap.size g d hgB hdB _).lV, (gTup W0.heap.size g d hgB hdB _).lV, gExt g d _ (gHis W0.heap.size g d hgB hdB _) 41 0, gExt g d _ (gOf g d _ isStr) 41 1, (gAny g d _).lV, gPut g d _ 50, gSame g d _ (gOf g d _ isStr) 51] (by kernel_rfl) (RG.refl _ _ _) (fun _ _ _ => RG.trans) (by kernel_rfl) (by kernel_rfl) (MM) (DD) ?_ ?_
          · refine ⟨?_, ?_, ?_, ?_, ?_, ?_, ?_, ?_, ?_, ?_, ?_, ?_, ?_, ?_, trivial⟩
            · intro k' w' ρ hk' hR hM hD hF
              replace hk' : k' < 14 := hk'
              obtain ⟨f0, -⟩ := hF
              replace f0 : ρ (.tmp 7) = .pointer (some ⟨d, 0, none⟩) := f0
              refine goodL_ofV (fun _ _ => trivial) fun K hK => ?_
              have z := hD (by rfl); have z0 := z.1 0; have z1 := z.1 1; go_simp; exact hK _ _ (RG.refl _ _ _ _) ⟨hM.next, fun _ h => h⟩ rfl
            · intro k' w' ρ hk' hR hM hD hF
              replace hk' : k' < 14 := hk'
              obtain ⟨f0, -⟩ := hF
              replace f0 : ρ (.tmp 6) = S ls := f0
              exact ⟨RG.refl _ _ _ _, ⟨hM.next, fun _ h => h⟩, f0, trivial⟩
            · intro k' w' ρ hk' hR hM hD hF
              replace hk' : k' < 14 := hk'
              obtain ⟨f0, -⟩ := hF
              replace f0 : ρ (.tmp 0) = .pointer (some ⟨g, 0, none⟩) := f0
              exact ⟨RG.refl _ _ _ _, ⟨hM.next, fun _ h => h⟩, f0, trivial⟩
            · intro k' w' ρ hk' hR hM hD hF
              replace hk' : k' < 14 := hk'
              obtain ⟨f0, -⟩ := hF
              replace f0 : ρ (.tmp 7) = .pointer (some ⟨d, 0, none⟩) := f0
              refine goodL_ofV (fun _ _ => trivial) fun K hK => ?_
              go_simp
              exact hK _ _ (RG.refl _ _ _ _) (⟨hM.next, fun _ h => h⟩) (rfl)
            · intro k' w' ρ hk' hR hM hD hF
              replace hk' : k' < 14 := hk'
              obtain ⟨f0, -⟩ := hF
              replace f0 : ρ (.tmp 45) = .pointer (some ⟨d, 0, none⟩) := f0
              refine goodL_ofV (fun _ _ => trivial) fun K hK => ?_
              have z := hD (by rfl); have z0 := z.1 0; go_simp; exact hK _ _ (RG.refl _ _ _ _) ⟨hM.next, fun _ h => h⟩ rfl
            · intro k' w' ρ hk' hR hM hD hF
              replace hk' : k' < 14 := hk'
              obtain ⟨f0, -⟩ := hF
              replace f0 : ρ (.tmp 46) = .slice VA ms0.length VC := f0
              refine goodL_ofV (fun _ _ => trivial) fun K hK => ?_
              go_simp
              exact hK _ _ (RG.refl _ _ _ _) (⟨hM.next, fun _ h => h⟩) (rfl)
            · intro k' w' ρ hk' hR hM hD hF
              replace hk' : k' < 14 := hk'
              obtain ⟨f0, f1, f2, -⟩ := hF
              replace f0 : ρ (.func _) = .func (.func _) #[] #[] := f0
              replace f1 : ρ (.tmp 44) = .pointer (some ⟨g, 0, none⟩) := f1
              replace f2 : ρ (.tmp 47) = .int .i64 ms0.length := f2
              refine goodL_ofV (fun _ _ => trivial) fun K hK => ?_
              obtain ⟨q, hq, hr⟩ := hM; have HR := Lib.hid hr; clear hr; go_simp; refine (pick_any g n zs q ms0.length _ HR.out (by omega)).mono ?_; rintro e wc ⟨x, rfl, _, _, hr', hb⟩; exact ⟨_, rfl, hK _ _ (RG.of_grown (Nat.lt_of_lt_of_le hdB hR.size) (by omega) hb) ⟨⟨q + 1, by omega, hr'⟩, fun _ h => h.of_block (hb.block d (Nat.lt_of_lt_of_le hdB hR.size) (by simp; omega))⟩ ⟨x, rfl⟩⟩
            · intro k' w' ρ hk' hR hM hD hF
              replace hk' : k' < 14 := hk'
              obtain ⟨f0, f1, f2, f3, -⟩ := hF
              replace f0 : ρ (.func _) = .func (.func _) #[] #[] := f0
              replace f1 : ρ (.tmp 42) = .agg #[.slice VA ms0.length VC, .int .i64 a0] := f1
              replace f2 : ρ (.tmp 43) = S ls := f2
              refine goodL_ofV (fun _ _ => trivial) fun K hK => ?_
              obtain ⟨to_, f3⟩ := f3; replace f3 : ρ (.tmp 48) = .int .i64 to_ := f3; have Hv := Lib.hid (rdM_good (hR.of_drew.own HV.out.1 HV.out.2.2.1 HV.out.2.2.2) HV.out.2.1); go_simp; refine (specTo_good _ ms0 a0 ls to_ _ o0 Hv.out HV.out.2.1).mono ?_; rintro e wc ⟨u, ms, a, t, ok, o, rfl, ho, hg2, hb⟩; exact ⟨_, rfl, hK _ _ (RG.of_below (Nat.lt_of_lt_of_le hdB hR.size) hb) ⟨hM.up hb, fun _ h => h.up (Nat.lt_of_lt_of_le hdB hR.size) hb⟩ ⟨u, ms, a, t, ok, o, rfl, own_base ho hR.size, hg2⟩⟩
            · intro k' w' ρ hk' hR hM hD hF
              replace hk' : k' < 14 := hk'
              obtain ⟨f0, -⟩ := hF
              exact ⟨RG.refl _ _ _ _, ⟨hM.next, fun _ h => h⟩, f0, trivial⟩
            · intro k' w' ρ hk' hR hM hD hF
              replace hk' : k' < 14 := hk'
              obtain ⟨f0, -⟩ := hF
              refine goodL_ofsV fun K hK => ?_
              obtain ⟨u, ms, a, t, ok, o, f0, h1, h2⟩ := f0; replace f0 : ρ (.tmp 41) = .tuple #[.agg #[u, .int .i64 a], S t, .bool ok] := f0; have Q := Lib.hid (And.intro h1 h2); clear h1 h2; go_simp; exact hK _ _ (RG.refl _ _ _ _) ⟨hM.next, fun _ h => h⟩ ⟨u, ms, a, t, o, rfl, Q.out.1, Q.out.2⟩ (by intro x y z hx; replace hx := hx.symm.trans f0; simp at hx; obtain ⟨rfl, rfl, rfl⟩ := hx; rfl)
            · intro k' w' ρ hk' hR hM hD hF
              replace hk' : k' < 14 := hk'
              obtain ⟨f0, -⟩ := hF
              refine goodL_ofsV fun K hK => ?_
              obtain ⟨u, ms, a, t, ok, o, f0, h1, h2⟩ := f0; replace f0 : ρ (.tmp 41) = .tuple #[.agg #[u, .int .i64 a], S t, .bool ok] := f0; have Q := Lib.hid (And.intro h1 h2); clear h1 h2; go_simp; exact hK _ _ (RG.refl _ _ _ _) ⟨hM.next, fun _ h => h⟩ ⟨t, rfl⟩ (by intro x y z hx; replace hx := hx.symm.trans f0; simp at hx; obtain ⟨rfl, rfl, rfl⟩ := hx; rfl)
            · intro k' w' ρ hk' hR hM hD hF
              replace hk' : k' < 14 := hk'
              obtain ⟨f0, -⟩ := hF
              refine goodL_ofV (fun _ _ => trivial) fun K hK => ?_
              obtain ⟨u, ms, a, t, ok, o, f0, h1, h2⟩ := f0; replace f0 : ρ (.tmp 41) = .tuple #[.agg #[u, .int .i64 a], S t, .bool ok] := f0; have Q := Lib.hid (And.intro h1 h2); clear h1 h2; go_simp; exact hK _ _ (RG.refl _ _ _ _) ⟨hM.next, fun _ h => h⟩ trivial
            · intro k' w' ρ hk' hR hM hD hF
              replace hk' : k' < 14 := hk'
              obtain ⟨f0, f1, -⟩ := hF
              replace f0 : ρ (.tmp 7) = .pointer (some ⟨d, 0, none⟩) := f0
              refine goodL_ofsV fun K hK => ?_
              obtain ⟨u, ms, a, t, o, f1, h1, h2⟩ := f1; obtain ⟨A1, c1, rfl, -, -⟩ := (RdL.of_own (f := moC) (bs := ms) h1).form; replace f1 : ρ (.tmp 50) = .agg #[.slice A1 ms.length c1, .int .i64 a] := f1; have z := hD (by rfl); have BB := Lib.hid (gput_mk (g := g) (u := .slice A1 ms.length c1) (y := a) z); have e0 := z.1 0; have e1 := z.1 1; simp only [List.getElem?_toArray, List.getElem?_cons_zero, List.getElem?_cons_succ] at e0 e1; have qf := z.2; have HM := Lib.hid hM; clear h1 h2 z hM hD; go_simp; refine hK _ _ BB.out.2 ⟨?_, fun hn => absurd rfl hn⟩ trivial ?_; (obtain ⟨q, hq, hr⟩ := HM.out; exact ⟨q, by rw [Nat.mul_add]; omega, gput_rdr hr hgd _ _⟩); (intro u0 y hu hne; replace hu := hu.symm.trans f1; simp at hu; obtain ⟨rfl, rfl⟩ := hu; exact ⟨by simpa [World.setCell] using Nat.lt_of_lt_of_le hdB hR.size, BB.out.1⟩)
            · intro k' w' ρ hk' hR hM hD hF
              replace hk' : k' < 14 := hk'
              obtain ⟨f0, -⟩ := hF
              refine goodL_ofsV fun K hK => ?_
              obtain ⟨t, f0⟩ := f0; replace f0 : ρ (.tmp 51) = S t := f0; go_simp; exact hK _ _ (RG.refl _ _ _ _) ⟨hM.next, fun _ h => h⟩ ⟨t, rfl⟩ f0.symm
          · intro w' hR hM
            rintro _ rfl -
            rintro _ rfl -
            rintro _ rfl -
            rintro _ rfl -
            rintro _ rfl -
            rintro _ rfl -
            rintro _ ⟨_, rfl⟩ -
            rintro _ - -
            rintro _ ⟨u1, ms1, a1, t1, ok1, o1, rfl, ho1, hg1⟩ -
            rintro hv - hs1
            rintro sv - hs2
            rintro _ - -
            rintro _ - hs3
            rintro xv - hs4
          --END
          --END
            obtain ⟨w5, rfl⟩ : ∃ z, z = w' := ⟨_, rfl⟩
            have e1 : hv = .agg #[u1, .int .i64 a1] := hs1 _ _ _ rfl
            have e2 : sv = S t1 := hs2 _ _ _ rfl
            subst e1 e2
            obtain ⟨hd5, hi5⟩ := hs3 u1 a1 rfl (own_new ho1 (by have := hg1.n1; omega) HVB.out)
            have e4 : xv = S t1 := hs4
            subst e4
            have HL : Hid (HLoop g n zs p d w.heap.size (w.heap.size + 1) w (k - 1) t1 w5) := Lib.hid (by
              obtain ⟨q6, hq6, hr6⟩ := hM
              replace hq6 : q6 ≤ qq + 60 * 14 := hq6
              exact ⟨q6, ms1, a1, o1, u1, hg1, hi5, own_base ho1 (by omega), own_far ho1 hdB, HIR.out.of_block (hR.block w.heap.size hs4' (by omega) hrd), hd5, by omega, hr6, hR.of_drew.to_grown hgr4 hwd⟩)
            clear hR hM hs1 hs2 hs3 hs4 ho1 hg1 hi5 hd5 HIR HV HVB MM DD
            dsimp only [EndAllLV, Act.put]
            go_wp2_with fail
            go_roundw
            case rel => exact ⟨k - 1, t1, by omega, by rw [show ((k - 1 : Nat) : Int) = (k : Int) - 1 by omega], rfl, HL⟩
            case measure => simp [intOf]; omega
        · go_wp2_with fail
          --EVER{spec.l20History;7;l20h7}
          refine wp_region_everLV (R := RG g d (.slice VA ms0.length VC)) (M := fun k w => MR g n zs qq 60 k w) 10 (fun w => Is w d #[.slice VA ms0.length VC, .int .i64 a0]) [(gEq g d _ (.agg #[.slice VA ms0.length VC, .int .i64 a0])).lV, (gEq g d _ (S ls)).lV, (gEq g d _ (.pointer (some ⟨g, 0, none⟩))).lV, (gEq g d _ (S ls)).lV, (gOf g d _ isCh).lV, (gTup W0.heap.size g d hgB hdB _).lV, (gTup W0.heap.size g d hgB hdB _).lV, gExt g d _ (gHis W0.heap.size g d hgB hdB _) 20 0, gExt g d _ (gOf g d _ isStr) 20 1, (gAny g d _).lV, gPut g d _ 27, gSame g d _ (gOf g d _ isStr) 28] (by kernel_rfl) (RG.refl _ _ _) (fun _ _ _ => RG.trans) (by kernel_rfl) (by kernel_rfl) (MM) (DD) ?_ ?_
          · refine ⟨?_, ?_, ?_, ?_, ?_, ?_, ?_, ?_, ?_, ?_, ?_, ?_, trivial⟩
            · intro k' w' ρ hk' hR hM hD hF
              replace hk' : k' < 12 := hk'
              obtain ⟨f0, -⟩ := hF
              replace f0 : ρ (.tmp 7) = .pointer (some ⟨d, 0, none⟩) := f0
              refine goodL_ofV (fun _ _ => trivial) fun K hK => ?_
              have z := hD (by rfl); have z0 := z.1 0; have z1 := z.1 1; go_simp; exact hK _ _ (RG.refl _ _ _ _) ⟨hM.next, fun _ h => h⟩ rfl
            · intro k' w' ρ hk' hR hM hD hF
              replace hk' : k' < 12 := hk'
              obtain ⟨f0, -⟩ := hF
              replace f0 : ρ (.tmp 6) = S ls := f0
              exact ⟨RG.refl _ _ _ _, ⟨hM.next, fun _ h => h⟩, f0, trivial⟩
            · intro k' w' ρ hk' hR hM hD hF
              replace hk' : k' < 12 := hk'
              obtain ⟨f0, -⟩ := hF
              replace f0 : ρ (.tmp 0) = .pointer (some ⟨g, 0, none⟩) := f0
              exact ⟨RG.refl _ _ _ _, ⟨hM.next, fun _ h => h⟩, f0, trivial⟩
            · intro k' w' ρ hk' hR hM hD hF
              replace hk' : k' < 12 := hk'
              obtain ⟨f0, -⟩ := hF
              replace f0 : ρ (.tmp 6) = S ls := f0
              exact ⟨RG.refl _ _ _ _, ⟨hM.next, fun _ h => h⟩, f0, trivial⟩
            · intro k' w' ρ hk' hR hM hD hF
              replace hk' : k' < 12 := hk'
              obtain ⟨f0, f1, f2, f3, -⟩ := hF
              replace f0 : ρ (.func _) = .func (.func _) #[] #[] := f0
              replace f1 : ρ (.tmp 23) = .pointer (some ⟨g, 0, none⟩) := f1
              replace f2 : ρ (.tmp 24) = S ls := f2
              replace f3 : ρ (.const (.int .i64 0)) = .int .i64 0 := f3
              refine goodL_ofV (fun _ _ => trivial) fun K hK => ?_
              obtain ⟨q, hq, hr⟩ := hM; have HR := Lib.hid hr; clear hr; go_simp; refine (l20Change_any g n zs q 0 ls _ HR.out (by omega) (by omega)).mono ?_; rintro e wc ⟨qa, qc, ct, rfl, hct, ⟨q', hq', hr'⟩, hb⟩; exact ⟨_, rfl, hK _ _ (RG.of_grown (Nat.lt_of_lt_of_le hdB hR.size) (by omega) hb) ⟨⟨q', by omega, hr'⟩, fun _ h => h.of_block (hb.block d (Nat.lt_of_lt_of_le hdB hR.size) (by simp; omega))⟩ ⟨qa, qc, ct, rfl, hct⟩⟩
            · intro k' w' ρ hk' hR hM hD hF
              replace hk' : k' < 12 := hk'
              obtain ⟨f0, f1, f2, f3, -⟩ := hF
              replace f0 : ρ (.func _) = .func (.func _) #[] #[] := f0
              replace f1 : ρ (.tmp 21) = .agg #[.slice VA ms0.length VC, .int .i64 a0] := f1
              replace f2 : ρ (.tmp 22) = S ls := f2
              refine goodL_ofV (fun _ _ => trivial) fun K hK => ?_
              obtain ⟨qa, qc, ct, f3, hct⟩ := f3; replace f3 : ρ (.tmp 25) = .agg #[.int .i64 qa, .int .i64 qc, S ct] := f3; have Hv := Lib.hid (rdM_good (hR.of_drew.own HV.out.1 HV.out.2.2.1 HV.out.2.2.2) HV.out.2.1); go_simp; refine (specDo_good _ ms0 a0 ls ⟨qa, qc, ct⟩ _ o0 Hv.out HV.out.2.1 (by simp; omega)).mono ?_; rintro e wc ⟨u, ms, a, t, ok, o, rfl, ho, hg2, hb⟩; exact ⟨_, rfl, hK _ _ (RG.of_below (Nat.lt_of_lt_of_le hdB hR.size) hb) ⟨hM.up hb, fun _ h => h.up (Nat.lt_of_lt_of_le hdB hR.size) hb⟩ ⟨u, ms, a, t, ok, o, rfl, own_base ho hR.size, hg2⟩⟩
            · intro k' w' ρ hk' hR hM hD hF
              replace hk' : k' < 12 := hk'
              obtain ⟨f0, -⟩ := hF
              exact ⟨RG.refl _ _ _ _, ⟨hM.next, fun _ h => h⟩, f0, trivial⟩
            · intro k' w' ρ hk' hR hM hD hF
              replace hk' : k' < 12 := hk'
              obtain ⟨f0, -⟩ := hF
              refine goodL_ofsV fun K hK => ?_
              obtain ⟨u, ms, a, t, ok, o, f0, h1, h2⟩ := f0; replace f0 : ρ (.tmp 20) = .tuple #[.agg #[u, .int .i64 a], S t, .bool ok] := f0; have Q := Lib.hid (And.intro h1 h2); clear h1 h2; go_simp; exact hK _ _ (RG.refl _ _ _ _) ⟨hM.next, fun _ h => h⟩ ⟨u, ms, a, t, o, rfl, Q.out.1, Q.out.2⟩ (by intro x y z hx; replace hx := hx.symm.trans f0; simp at hx; obtain ⟨rfl, rfl, rfl⟩ := hx; rfl)
            · intro k' w' ρ hk' hR hM hD hF
              replace hk' : k' < 12 := hk'
              obtain ⟨f0, -⟩ := hF
              refine goodL_ofsV fun K hK => ?_
              obtain ⟨u, ms, a, t, ok, o, f0, h1, h2⟩ := f0; replace f0 : ρ (.tmp 20) = .tuple #[.agg #[u, .int .i64 a], S t, .bool ok] := f0; have Q := Lib.hid (And.intro h1 h2); clear h1 h2; go_simp; exact hK _ _ (RG.refl _ _ _ _) ⟨hM.next, fun _ h => h⟩ ⟨t, rfl⟩ (by intro x y z hx; replace hx := hx.symm.trans f0; simp at hx; obtain ⟨rfl, rfl, rfl⟩ := hx; rfl)
            · intro k' w' ρ hk' hR hM hD hF
              replace hk' : k' < 12 := hk'
              obtain ⟨f0, -⟩ := hF
              refine goodL_ofV (fun _ _ => trivial) fun K hK => ?_
              obtain ⟨u, ms, a, t, ok, o, f0, h1, h2⟩ := f0; replace f0 : ρ (.tmp 20) = .tuple #[.agg #[u, .int .i64 a], S t, .bool ok] := f0; have Q := Lib.hid (And.intro h1 h2); clear h1 h2; go_simp; exact hK _ _ (RG.refl _ _ _ _) ⟨hM.next, fun _ h => h⟩ trivial
            · intro k' w' ρ hk' hR hM hD hF
              replace hk' : k' < 12 := hk'
              obtain ⟨f0, f1, -⟩ := hF
              replace f0 : ρ (.tmp 7) = .pointer (some ⟨d, 0, none⟩) := f0
              refine goodL_ofsV fun K hK => ?_
              obtain ⟨u, ms, a, t, o, f1, h1, h2⟩ := f1; obtain ⟨A1, c1, rfl, -, -⟩ := (RdL.of_own (f := moC) (bs := ms) h1).form; replace f1 : ρ (.tmp 27) = .agg #[.slice A1 ms.length c1, .int .i64 a] := f1; have z := hD (by rfl); have BB := Lib.hid (gput_mk (g := g) (u := .slice A1 ms.length c1) (y := a) z); have e0 := z.1 0; have e1 := z.1 1; simp only [List.getElem?_toArray, List.getElem?_cons_zero, List.getElem?_cons_succ] at e0 e1; have qf := z.2; have HM := Lib.hid hM; clear h1 h2 z hM hD; go_simp; refine hK _ _ BB.out.2 ⟨?_, fun hn => absurd rfl hn⟩ trivial ?_; (obtain ⟨q, hq, hr⟩ := HM.out; exact ⟨q, by rw [Nat.mul_add]; omega, gput_rdr hr hgd _ _⟩); (intro u0 y hu hne; replace hu := hu.symm.trans f1; simp at hu; obtain ⟨rfl, rfl⟩ := hu; exact ⟨by simpa [World.setCell] using Nat.lt_of_lt_of_le hdB hR.size, BB.out.1⟩)
            · intro k' w' ρ hk' hR hM hD hF
              replace hk' : k' < 12 := hk'
              obtain ⟨f0, -⟩ := hF
              refine goodL_ofsV fun K hK => ?_
              obtain ⟨t, f0⟩ := f0; replace f0 : ρ (.tmp 28) = S t := f0; go_simp; exact hK _ _ (RG.refl _ _ _ _) ⟨hM.next, fun _ h => h⟩ ⟨t, rfl⟩ f0.symm
          · intro w' hR hM
            rintro _ rfl -
            rintro _ rfl -
            rintro _ rfl -
            rintro _ rfl -
            rintro _ ⟨_, _, _, rfl, -⟩ -
            rintro _ - -
            rintro _ ⟨u1, ms1, a1, t1, ok1, o1, rfl, ho1, hg1⟩ -
            rintro hv - hs1
            rintro sv - hs2
            rintro _ - -
            rintro _ - hs3
            rintro xv - hs4
          --END
          --END
            obtain ⟨w5, rfl⟩ : ∃ z, z = w' := ⟨_, rfl⟩
            have e1 : hv = .agg #[u1, .int .i64 a1] := hs1 _ _ _ rfl
            have e2 : sv = S t1 := hs2 _ _ _ rfl
            subst e1 e2
            obtain ⟨hd5, hi5⟩ := hs3 u1 a1 rfl (own_new ho1 (by have := hg1.n1; omega) HVB.out)
            have e4 : xv = S t1 := hs4
            subst e4
            have HL : Hid (HLoop g n zs p d w.heap.size (w.heap.size + 1) w (k - 1) t1 w5) := Lib.hid (by
              obtain ⟨q6, hq6, hr6⟩ := hM
              replace hq6 : q6 ≤ qq + 60 * 12 := hq6
              exact ⟨q6, ms1, a1, o1, u1, hg1, hi5, own_base ho1 (by omega), own_far ho1 hdB, HIR.out.of_block (hR.block w.heap.size hs4' (by omega) hrd), hd5, by omega, hr6, hR.of_drew.to_grown hgr4 hwd⟩)
            clear hR hM hs1 hs2 hs3 hs4 ho1 hg1 hi5 hd5 HIR HV HVB MM DD
            dsimp only [EndAllLV, Act.put]
            go_wp2_with fail
            go_roundw
            case rel => exact ⟨k - 1, t1, by omega, by rw [show ((k - 1 : Nat) : Int) = (k : Int) - 1 by omega], rfl, HL⟩
            case measure => simp [intOf]; omega
    · obtain rfl : k = 0 := by omega
      have hn30 := hg0.n30
      have hn1 := hg0.n1
      have HG0 := Lib.hid hg0
      have HI0 := Lib.hid hi0
      have HO0 := Lib.hid ho0
      have HIR := Lib.hid hir
      have hrs : w.heap.size < wr.heap.size := by omega
      clear hg0 hi0 ho0 hir
      go_wp2_with fail
      refine (odd_any _ _ _ _ _ _ hrw (by omega)).mono ?_
      rintro e w4 ⟨x4, rfl, ⟨q4, hq4, hr4⟩, hb⟩
      have hi4 := HI0.out.of_block (hb.block d hdz (by simp; omega))
      have ho4 := gup_own HO0.out hb (by omega)
      have hir4 := HIR.out.of_block (hb.block w.heap.size hrs (by simp; omega))
      have hdz4 := Nat.lt_of_lt_of_le hdz hb.size
      have hgr4 := gb_trans hgr hb
      have hs4' : w.heap.size < w4.heap.size := by have := hb.size; omega
      have hgn : (Value.slice VA ms0.length VC).ownBlock ≠ some g := own_far ho4 (by omega)
      have hrn : (Value.slice VA ms0.length VC).ownBlock ≠ some w.heap.size := own_far ho4 (by omega)
      have hlo : ∀ x, (Value.slice VA ms0.length VC).ownBlock = some x → w.heap.size ≤ x := fun x hx => by have := (ho4.lt x hx).1; omega
      have hnn : Value.slice VA ms0.length VC ≠ .slice none 0 0 := own_new ho4 (by omega) (fun k hk => by cases hk)
      clear hb hrw hgr hdz HI0 HO0 HIR hrs
      rcases x4 with _ | _
      · have dc := hi4.1
        have df := hi4.2
        have rc := hir4.1
        have rf := hir4.2
        have HO := Lib.hid ho4
        clear hi4 hir4 ho4
        go_wp2_with fail
        refine bodyPost_ret (v := .tuple #[.agg #[.slice VA ms0.length VC, .int .i64 a0], S ls]) (by simp [results, Tryz.results68, go_sem, rc]) rfl ⟨_, ms0, a0, ls, rfl, ?_, hn30, by omega, hlo, hnn, ⟨q4, by omega, ?_⟩, ?_⟩
        · exact rdM_good (own_setn (own_setn HO.out _ _ fun x hx e => hrn (by rw [hx]; exact congrArg some e)) _ _ fun x hx e => hrn (by rw [hx]; exact congrArg some e)) HG0.out
        · exact gput_rdr hr4 (by omega) _ _
        · exact gb_set (gb_set hgr4 _ _ (Nat.le_refl _)) _ _ (Nat.le_refl _)
      · go_wp2_with fail
        refine (pick_any _ _ _ _ _ _ hr4 (by omega)).mono ?_
        rintro e w5 ⟨x5, rfl, h1, h2, hr5, hb⟩
        have hx5 := h1 (by omega)
        have hi5 := hi4.of_block (hb.block d hdz4 (by simp; omega))
        have ho5 := gup_own ho4 hb (by omega)
        have hir5 := hir4.of_block (hb.block w.heap.size hs4' (by simp; omega))
        have hdz5 := Nat.lt_of_lt_of_le hdz4 hb.size
        have hgr5 := gb_trans hgr4 hb
        have hs5' : w.heap.size < w5.heap.size := by have := hb.size; omega
        clear hb h1 h2 hr4 hgr4 hdz4 hi4 ho4 hir4 hs4'
        by_cases e0 : x5 = 0
        · subst e0
          have dc := hi5.1
          have df := hi5.2
          have rc := hir5.1
          have rf := hir5.2
          have HO := Lib.hid ho5
          clear hi5 hir5 ho5
          go_wp2_with fail
          refine bodyPost_ret (v := .tuple #[.agg #[.slice VA ms0.length VC, .int .i64 a0], S (ls ++ [9])]) (by simp [results, Tryz.results68, go_sem, rc]) rfl ⟨_, ms0, a0, _, rfl, ?_, hn30, by simp; omega, hlo, hnn, ⟨q4 + 1, by omega, ?_⟩, ?_⟩
          · exact rdM_good (own_setn (own_setn HO.out _ _ fun x hx e => hrn (by rw [hx]; exact congrArg some e)) _ _ fun x hx e => hrn (by rw [hx]; exact congrArg some e)) HG0.out
          · exact gput_rdr hr5 (by omega) _ _
          · exact gb_set (gb_set hgr5 _ _ (Nat.le_refl _)) _ _ (Nat.le_refl _)
        by_cases e1 : x5 = 1
        · subst e1
          obtain ⟨W0, rfl⟩ : ∃ z, z = w5 := ⟨_, rfl⟩
          obtain ⟨qq, hqq⟩ : ∃ z, z = q4 + 1 := ⟨_, rfl⟩
          rw [← hqq] at hr5
          have hqb : qq ≤ p + 9002 := by omega
          have hdB : d < W0.heap.size := hdz5
          have MM : MR g n zs qq 2 0 W0.drew ∧ ∃ y : Int, Is W0.drew d #[.slice VA ms0.length VC, .int .i64 y] := ⟨MR.drew ⟨qq, by omega, hr5⟩, a0, hi5⟩
          have HO := Lib.hid ho5
          have HIR := Lib.hid hir5
          clear hi5 ho5 hir5 hr5
          go_upto_region 18 with (fail)
          --EVER{spec.l20History;18;l20h18}
          refine wp_region_ever (R := RS [g, d]) (M := fun k w => MR g n zs qq 2 k w ∧ ∃ y : Int, Is w d #[.slice VA ms0.length VC, .int .i64 y]) [tEq _ (.pointer (some ⟨d, 0, none⟩)), tEq _ (.slice VA ms0.length VC), tEq _ (.int .i64 ms0.length), tRow _ (isI (-1) (30)) 2, tEq _ (.pointer (some ⟨g, 0, none⟩)), tOf _ (isI (0) (1)), tPtr _ (isI (-1) (30)), tOf _ (isI (-1) (30)), tEq _ (.pointer (some ⟨d, 1, none⟩)), tyAny _] (by kernel_rfl) (RS.refl _) (fun _ _ _ => RS.trans) (by kernel_rfl) (MM) ?_ ?_
          · refine ⟨?_, ?_, ?_, ?_, ?_, ?_, ?_, ?_, ?_, ?_, trivial⟩
            · intro k' w' ρ hk' hR hM hF
              replace hk' : k' < 10 := hk'
              obtain ⟨f0, -⟩ := hF
              replace f0 : ρ (.tmp 7) = .pointer (some ⟨d, 0, none⟩) := f0
              refine good_of fun K hK => ?_
              go_simp
              exact hK _ _ (RS.refl _ _) (⟨hM.1.next, hM.2⟩) (rfl)
            · intro k' w' ρ hk' hR hM hF
              replace hk' : k' < 10 := hk'
              obtain ⟨f0, -⟩ := hF
              replace f0 : ρ (.tmp 68) = .pointer (some ⟨d, 0, none⟩) := f0
              refine good_of fun K hK => ?_
              obtain ⟨hM1, y, hI⟩ := hM; have z0 := hI.1 0; go_simp; exact hK _ _ (RS.refl _ _) ⟨hM1.next, y, hI⟩ rfl
            · intro k' w' ρ hk' hR hM hF
              replace hk' : k' < 10 := hk'
              obtain ⟨f0, -⟩ := hF
              replace f0 : ρ (.tmp 69) = .slice VA ms0.length VC := f0
              refine good_of fun K hK => ?_
              go_simp
              exact hK _ _ (RS.refl _ _) (⟨hM.1.next, hM.2⟩) (rfl)
            · intro k' w' ρ hk' hR hM hF
              replace hk' : k' < 10 := hk'
              obtain ⟨f0, f1, -⟩ := hF
              replace f0 : ρ (.const (.int .i64 (-1))) = .int .i64 (-1) := f0
              replace f1 : ρ (.tmp 70) = .int .i64 ms0.length := f1
              have bnew : w'.heap.size ∉ [g, d] := by have := hR.size; have h0 : W0.heap.size ≤ w'.heap.size := this; simp; omega
              refine good_of fun K hK => ?_
              go_simp
              refine hK _ _ (RS.alloc (RS.refl _ _) _) ((by obtain ⟨hM1, y, hI⟩ := hM; exact ⟨(hM1.alloc _).next, y, hI.up (Nat.lt_of_lt_of_le hdB hR.size) (up_alloc (Below.refl _ _) _)⟩)) ⟨w'.heap.size, rfl, bnew, by simp, fun j hj => row_new w' _ _ _ ?_ j hj⟩
              intro x hx; simp only [List.mem_cons, List.not_mem_nil, or_false] at hx
              rcases hx with rfl | rfl
              · exact ⟨_, rfl, by omega, by omega⟩
              · exact ⟨_, rfl, by omega, by omega⟩
            · intro k' w' ρ hk' hR hM hF
              replace hk' : k' < 10 := hk'
              obtain ⟨f0, -⟩ := hF
              replace f0 : ρ (.tmp 0) = .pointer (some ⟨g, 0, none⟩) := f0
              exact ⟨RS.refl _ _, ⟨hM.1.next, hM.2⟩, f0⟩
            · intro k' w' ρ hk' hR hM hF
              replace hk' : k' < 10 := hk'
              obtain ⟨f0, f1, f2, -⟩ := hF
              replace f0 : ρ (.func _) = .func (.func _) #[] #[] := f0
              replace f1 : ρ (.tmp 72) = .pointer (some ⟨g, 0, none⟩) := f1
              replace f2 : ρ (.const (.int .i64 2)) = .int .i64 2 := f2
              refine good_of fun K hK => ?_
              obtain ⟨⟨q, hq, hr⟩, y, hI⟩ := hM; have HR := Lib.hid hr; have HI := Lib.hid hI; clear hr hI; go_simp; refine (pick_any g n zs q 2 _ HR.out (by omega)).mono ?_; rintro e wc ⟨x, rfl, h1, _, hr', hb⟩; exact ⟨_, rfl, hK _ _ ((RS.refl _ _).grown hb (by intro g' h; injection h with h; subst h; exact .inl (by simp))) ⟨⟨q + 1, by omega, hr'⟩, y, HI.out.of_block (hb.block d (Nat.lt_of_lt_of_le hdB hR.size) (by simp; omega))⟩ ⟨x, rfl, by have := h1 (by omega); omega, by have := h1 (by omega); omega⟩⟩
            · intro k' w' ρ hk' hR hM hF
              replace hk' : k' < 10 := hk'
              obtain ⟨f0, f1, -⟩ := hF
              obtain ⟨b0, f0, bn0, bz0, bc0⟩ := f0
              replace f0 : ρ (.tmp 71) = .slice (some ⟨b0, 0, none⟩) 2 2 := f0
              obtain ⟨x1, f1, lo1, hi1⟩ := f1
              replace f1 : ρ (.tmp 73) = .int .i64 x1 := f1
              obtain ⟨u, hu, he⟩ := bc0 x1.toNat (by omega)
              clear bc0
              have ix0 : 0 ≤ x1 := by omega
              have ix1 : x1 < 2 := by omega
              refine good_of fun K hK => ?_
              go_simp
              exact hK _ _ (RS.refl _ _) (⟨hM.1.next, hM.2⟩) ⟨b0, _, rfl, bn0, bz0, u, hu, he⟩
            · intro k' w' ρ hk' hR hM hF
              replace hk' : k' < 10 := hk'
              obtain ⟨f0, -⟩ := hF
              obtain ⟨b0, o0, f0, bn0, bz0, u0, bc0, be0⟩ := f0
              replace f0 : ρ (.tmp 74) = .pointer (some ⟨b0, o0, none⟩) := f0
              refine good_of fun K hK => ?_
              go_simp
              exact hK _ _ (RS.refl _ _) (⟨hM.1.next, hM.2⟩) be0
            · intro k' w' ρ hk' hR hM hF
              replace hk' : k' < 10 := hk'
              obtain ⟨f0, -⟩ := hF
              replace f0 : ρ (.tmp 7) = .pointer (some ⟨d, 0, none⟩) := f0
              refine good_of fun K hK => ?_
              go_simp
              exact hK _ _ (RS.refl _ _) (⟨hM.1.next, hM.2⟩) (rfl)
            · intro k' w' ρ hk' hR hM hF
              replace hk' : k' < 10 := hk'
              obtain ⟨f0, f1, -⟩ := hF
              replace f0 : ρ (.tmp 76) = .pointer (some ⟨d, 1, none⟩) := f0
              refine good_of fun K hK => ?_
              obtain ⟨x1, f1, lo1, hi1⟩ := f1; replace f1 : ρ (.tmp 75) = .int .i64 x1 := f1; obtain ⟨⟨q, hq, hr⟩, y, hI⟩ := hM; have e0 := hI.1 1; have qf := hI.2; simp only [List.getElem?_toArray, List.getElem?_cons_zero, List.getElem?_cons_succ] at e0; have HI := Lib.hid (And.intro hr hI); clear hr hI; go_simp; exact hK _ _ ((RS.refl _ _).set _ _ (by simp)) ⟨⟨q, by omega, rdr_set HI.out.1 _ _ hgd⟩, x1, is_set1 HI.out.2⟩ trivial
          · intro w' hR hM
            rintro _ rfl
            rintro _ rfl
            rintro _ rfl
            rintro _ ⟨_, rfl, -, -, -⟩
            rintro _ rfl
            rintro _ ⟨v5, rfl, lo5, hi5⟩
            rintro _ ⟨_, _, rfl, -, -, -⟩
            rintro _ ⟨v7, rfl, lo7, hi7⟩
            rintro _ rfl
            rintro _ -
          --END
          --END
            dsimp only [EndAll, Act.put]
            obtain ⟨w6, rfl⟩ : ∃ z, z = w' := ⟨_, rfl⟩
            obtain ⟨⟨q6, hq6, hr6⟩, y6, hi6⟩ := hM
            replace hq6 : q6 ≤ qq + 2 * 10 := hq6
            have hB := hR.of_drew
            have hir6 := HIR.out.of_block (hB.block w.heap.size hs5' (by simp; omega))
            have hgn2 : (Value.slice VA ms0.length VC).ownBlock = none ∨ True := .inr trivial
            have ho6 : OwnM w6 (w.heap.size + 1) (.slice VA ms0.length VC) ms0 := rs_own hB HO.out (fun x hx => by
              simp
              exact ⟨fun e => hgn (by rw [hx, e]), fun e => hn0 (by rw [hx, e])⟩)
            have hgr6 : w.grownBy w6 (some g) := ⟨hB.os.trans hgr5.os, hB.tape.trans hgr5.tape, hB.output.trans hgr5.output, Nat.le_trans hgr5.size hB.size, fun i hi h1 => (hB.block i (Nat.lt_of_lt_of_le hi hgr5.size) (by simp at h1 ⊢; omega)).trans (hgr5.block i hi h1)⟩
            have dc := hi6.1
            have df := hi6.2
            have rc := hir6.1
            have rf := hir6.2
            have HO6 := Lib.hid ho6
            have HR6 := Lib.hid hr6
            have HGR6 := Lib.hid hgr6
            clear hi6 hir6 ho6 hr6 hgr6 hR hB HO HIR MM hgr5
            go_wp2_with fail
            refine bodyPost_ret (v := .tuple #[.agg #[.slice VA ms0.length VC, .int .i64 y6], S ls]) (by simp [results, Tryz.results68, go_sem, rc]) rfl ⟨_, ms0, y6, ls, rfl, ?_, hn30, by omega, hlo, hnn, ⟨q6, by omega, ?_⟩, ?_⟩
            · exact rdM_good (own_setn (own_setn HO6.out _ _ fun x hx e => hrn (by rw [hx]; exact congrArg some e)) _ _ fun x hx e => hrn (by rw [hx]; exact congrArg some e)) HG0.out
            · exact gput_rdr HR6.out hg _ _
            · exact gb_set (gb_set HGR6.out _ _ (Nat.le_refl _)) _ _ (Nat.le_refl _)
        by_cases e2 : x5 = 2
        · subst e2
          rcases ho5.2 with ⟨_, h0⟩ | ⟨b, cap, cur, hv, hbg, hh, hnc, hcm, hcs, htake⟩
          · omega
          injection hv with hv1 _ hv2
          subst hv1 hv2
          have dc := hi5.1
          have df := hi5.2
          obtain ⟨j, hj⟩ : ∃ j, ms0.length = j + 1 := ⟨ms0.length - 1, by omega⟩
          obtain ⟨ns, hnl, hns, hnp⟩ := set_par hj (ms0.length : Int) (puts_good HG0.out)
          obtain ⟨u0, c0⟩ := own_cellX ho5 (show j * 7 < ms0.length * 7 by omega)
          have f0 := ho5.frozenAt (j * 7)
          have HS := Lib.hid (show OwnM (w5.setCell ⟨b, j * 7, none⟩ (.int .i64 ms0.length)) (w.heap.size + 1) (.slice (some ⟨b, 0, none⟩) ms0.length VC) ns from by
            have := (ho5.stored (j * 7) (.int .i64 ms0.length)).1
            rw [hns] at this
            rw [OwnM, hnl]
            exact this)
          have HN := Lib.hid (And.intro hnl hnp)
          have hnl30 : ns.length ≤ 30 := by omega
          have hbd : ¬ d = b := fun e => hn0 (by rw [e]; rfl)
          have hbd2 : ¬ b = d := fun e => hbd e.symm
          have hbr : ¬ b = w.heap.size := by omega
          have hbr2 : ¬ w.heap.size = b := by omega
          have hbw : w.heap.size < b := by omega
          have hbg2 : ¬ b = g := by omega
          have iw : IntKind.i64.wrap ((ms0.length : Int) - 1) = (j : Int) := by rw [IntWalk.i64_in _ (by omega)]; omega
          have ij : (j : Int) < (ms0.length : Int) := by omega
          have hj2 : j < ms0.length := by omega
          have rc := hir5.1
          have rf := hir5.2
          have HR := Lib.hid hr5
          have HGR := Lib.hid hgr5
          clear hi5 ho5 hir5 hh htake hcs hnl hns hnp hj hr5 hgr5
          go_wp2_with fail
          refine bodyPost_ret (v := .tuple #[.agg #[.slice (some ⟨b, 0, none⟩) ms0.length VC, .int .i64 a0], S ls]) (by simp [results, Tryz.results68, go_sem, rc]) rfl ⟨_, ns, a0, ls, rfl, ?_, hnl30, by omega, hlo, hnn, ⟨q4 + 1, by omega, ?_⟩, ?_⟩
          · exact rdM_puts (own_setn (own_setn HS.out _ _ fun x hx e => hrn (by rw [hx]; exact congrArg some e)) _ _ fun x hx e => hrn (by rw [hx]; exact congrArg some e)) HN.out.2 (by decide)
          · exact rdr_set (rdr_set (rdr_set HR.out ⟨b, j * 7, none⟩ _ (by show g < b; omega)) _ _ hg) _ _ hg
          · exact gb_set (gb_set (gb_set HGR.out ⟨b, j * 7, none⟩ _ (by show w.heap.size ≤ b; omega)) _ _ (Nat.le_refl _)) _ _ (Nat.le_refl _)
        by_cases e3 : x5 = 3
        · subst e3
          rcases ho5.2 with ⟨_, h0⟩ | ⟨b, cap, cur, hv, hbg, hh, hnc, hcm, hcs, htake⟩
          · omega
          injection hv with hv1 _ hv2
          subst hv1 hv2
          have dc := hi5.1
          have df := hi5.2
          obtain ⟨pb, hpb⟩ : ∃ pb, pb = (ms0.getD (ms0.length - 1) m0).b.p := ⟨_, rfl⟩
          have hpl : pb.length ≤ 120 := by rw [hpb]; exact (HG0.out.put (by omega)).2
          obtain ⟨b', o', hA, _, _, _, _, _, _, _, c6⟩ := (rdM_good ho5 HG0.out).cells (k := ms0.length - 1) (by omega) rfl
          injection hA with hA
          injection hA with hA1 hA2 _
          subst hA1 hA2
          rw [← hpb] at c6
          obtain ⟨j, hj⟩ : ∃ j, ms0.length = j + 1 := ⟨ms0.length - 1, by omega⟩
          obtain ⟨ns, hnl, hns, hnp⟩ := set_put (K := 121) hj (pb ++ [122]) (by simp; omega) (fun y hy => by have := puts_good HG0.out y hy; omega)
          rw [show 0 + (ms0.length - 1) * 7 + 6 = j * 7 + 6 by omega] at c6
          have f0 := ho5.frozenAt (j * 7 + 6)
          have HS := Lib.hid (show OwnM (w5.setCell ⟨b, j * 7 + 6, none⟩ (S (pb ++ [122]))) (w.heap.size + 1) (.slice (some ⟨b, 0, none⟩) ms0.length VC) ns from by
            have := (ho5.stored (j * 7 + 6) (S (pb ++ [122]))).1
            rw [hns] at this
            rw [OwnM, hnl]
            exact this)
          have HN := Lib.hid (And.intro hnl hnp)
          have hnl30 : ns.length ≤ 30 := by omega
          have hbd : ¬ d = b := fun e => hn0 (by rw [e]; rfl)
          have hbd2 : ¬ b = d := fun e => hbd e.symm
          have hbr : ¬ b = w.heap.size := by omega
          have hbr2 : ¬ w.heap.size = b := by omega
          have hbw : w.heap.size < b := by omega
          have hbg2 : ¬ b = g := by omega
          have iw : IntKind.i64.wrap ((ms0.length : Int) - 1) = (j : Int) := by rw [IntWalk.i64_in _ (by omega)]; omega
          have ij : (j : Int) < (ms0.length : Int) := by omega
          have hj2 : j < ms0.length := by omega
          have rc := hir5.1
          have rf := hir5.2
          have HR := Lib.hid hr5
          have HGR := Lib.hid hgr5
          clear hi5 ho5 hir5 hh htake hcs hnl hns hnp hj hr5 hgr5
          clear hpb
          go_upto_region 22 with (fail)
          go_region
          all_goals
            go_wp2_with fail
            refine bodyPost_ret (v := .tuple #[.agg #[.slice (some ⟨b, 0, none⟩) ms0.length VC, .int .i64 a0], S ls]) (by simp [results, Tryz.results68, go_sem, rc]) rfl ⟨_, ns, a0, ls, rfl, ?_, hnl30, by omega, hlo, hnn, ⟨q4 + 1, by omega, ?_⟩, ?_⟩
            · exact rdM_puts (own_setn (own_setn HS.out _ _ fun x hx e => hrn (by rw [hx]; exact congrArg some e)) _ _ fun x hx e => hrn (by rw [hx]; exact congrArg some e)) HN.out.2 (by decide)
            · exact rdr_set (rdr_set (rdr_set HR.out ⟨b, j * 7 + 6, none⟩ _ (by show g < b; omega)) _ _ hg) _ _ hg
            · have hGG := HGR.out
              (repeat (first | exact World.grownBy.refl _ _ | assumption | refine gb_drew ?_ | refine gb_drewN ?_ _ | refine gb_alloc ?_ _ | refine gb_here ?_ rfl _ | refine gb_set ?_ _ _ (by first | exact Nat.le_refl _ | (simp; done) | (simp; omega) | omega) | refine gb_trans ?_ (by assumption) | refine gb_below ?_ (by assumption)))
        · obtain rfl : x5 = 4 := by omega
          rcases ho5.2 with ⟨_, h0⟩ | ⟨b, cap, cur, hv, hbg, hh, hnc, hcm, hcs, htake⟩
          · omega
          injection hv with hv1 _ hv2
          subst hv1 hv2
          have dc := hi5.1
          have df := hi5.2
          have rc := hir5.1
          have rf := hir5.2
          have HO := Lib.hid ho5
          have hbr : w.heap.size < b := by omega
          clear hi5 ho5 hir5 hh htake hcs e0 e1 e2 e3
          have HR := Lib.hid hr5
          have HGR := Lib.hid hgr5
          clear hr5 hgr5
          rcases (show VC = 1 ∨ 1 < VC by omega) with hc1 | hc1
          · have hl0 : ms0.length - 1 = 0 := by omega
            go_wp2_with fail
            refine bodyPost_ret (v := .tuple #[.agg #[.slice (some ⟨b, 0, none⟩) 0 0, .int .i64 a0], S ls]) (by simp [results, Tryz.results68, go_sem, rc]) rfl ⟨_, [], a0, ls, rfl, ?_, by simp, by omega, ?_, (by simp), ⟨q4 + 1, by omega, ?_⟩, ?_⟩
            · exact rdMo_none _ _
            · intro x e; injection e with e; simp only at e; omega
            · exact rdr_set (rdr_set (rdr_set HR.out ⟨d, 0, none⟩ _ hgd) _ _ hg) _ _ hg
            · exact gb_set (gb_set (gb_set HGR.out ⟨d, 0, none⟩ _ hwd) _ _ (Nat.le_refl _)) _ _ (Nat.le_refl _)
          · go_wp2_with fail
            refine bodyPost_ret (v := .tuple #[.agg #[.slice (some ⟨b, 7, none⟩) (ms0.length - 1) (VC - 1), .int .i64 a0], S ls]) (by simp [results, Tryz.results68, go_sem, rc]) rfl ⟨_, ms0.tail, a0, ls, rfl, ?_, by rw [List.length_tail]; omega, by omega, ?_, (by simp), ⟨q4 + 1, by omega, ?_⟩, ?_⟩
            · exact rdM_tail (K := 120) (RdL.of_own (own_setn (own_setn (own_setn HO.out ⟨d, 0, none⟩ _ fun x hx e => hn0 (by rw [hx]; exact congrArg some e)) _ _ fun x hx e => hrn (by rw [hx]; exact congrArg some e)) _ _ fun x hx e => hrn (by rw [hx]; exact congrArg some e))) rfl hc1 (puts_good HG0.out) (by decide)
            · intro x e; injection e with e; simp only at e; omega
            · exact rdr_set (rdr_set (rdr_set HR.out ⟨d, 0, none⟩ _ hgd) _ _ hg) _ _ hg
            · exact gb_set (gb_set (gb_set HGR.out ⟨d, 0, none⟩ _ hwd) _ _ (Nat.le_refl _)) _ _ (Nat.le_refl _)

end Go.Proofs.YtdngdlcibaiekaaGreatDoor
