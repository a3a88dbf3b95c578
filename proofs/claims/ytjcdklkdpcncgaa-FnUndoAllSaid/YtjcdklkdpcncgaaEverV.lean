/- What is proved here: the law (an operation's link may speak of its own value too) for regions whose order is drawn, with links: beside the lasting fact on its own value an operation may give a lasting fact on the value of another one that it waits for. No condition. -/
import Derived.Test.YtjcdklkdpcncgaaEverL
namespace Go.Proofs.Ytjcdklkdpcncgaa
open Go.RowKit

/-- a lasting fact on a value, and one on the value of the slot lk. -/
structure TlV (R : World → World → Prop) extends Ty R where
  lk : Option Nat
  s : Value → Value → World → Prop
  us : ∀ v u w w', R w w' → s v u w → s v u w'

section
variable {P : Program} {R : World → World → Prop}
def Ty.lV (t : Ty R) : TlV R := { t with lk := none, s := fun _ _ _ => True, us := fun _ _ _ _ _ _ => trivial }
def tlAtV (T : List (TlV R)) (i : Nat) : TlV R := match T[i]? with | some t => t | none => (tyAny R).lV
abbrev tysV (T : List (TlV R)) : List (Ty R) := T.map TlV.toTy
theorem tyAt_tysV (T : List (TlV R)) (i : Nat) : tyAt (tysV T) i = (tlAtV T i).toTy := by
  unfold tyAt tlAtV tysV
  rw [List.getElem?_map]
  cases T[i]? <;> rfl
def GoodLV (P : Program) (R : World → World → Prop) (M : World → Prop) (T : TlV R) (u : Value) (w : World) : Result Next → Prop
  | .ok (.value v) w' => R w w' ∧ M w' ∧ T.p v w' ∧ T.s v u w'
  | .ok .skip w' => R w w' ∧ M w' ∧ T.p undef w' ∧ T.s undef u w'
  | .ok (.enter f args) w' => Calls P f args w' fun e w'' => ∃ v, e = .returned v ∧ R w w'' ∧ M w'' ∧ T.p v w'' ∧ T.s v u w''
  | _ => False
def lkAV (T : TlV R) (ρ : Operand → Value) : Value := match T.lk with | some t => ρ (.tmp t) | none => undef
def lkvV (l : List Oper) (T : List (TlV R)) (vs : Nat → Value) (j : Nat) : Value := match (tlAtV T j).lk with | some t => (match prodOf l t with | some i => vs i | none => undef) | none => undef
def OpOkLV (P : Program) (R : World → World → Prop) (M : Nat → World → Prop) (d : Nat) (D : World → Prop) (l : List Oper) (a : Act) (T : List (TlV R)) (w0 : World) (i : Nat) (o : Oper) : Prop :=
  ∀ k w ρ, k < l.length → R w0 w → M k w → ((i == d || reach l l.length d i) = true → D w) → factsOf l a (tysV T) ρ w o o.op.operands.toList →
    match o.guard with
    | none => GoodLV P R (fun w' => M (k + 1) w' ∧ (i ≠ d → D w → D w')) (tlAtV T i) (lkAV (tlAtV T i) ρ) w ((execOp ρ o).run P w)
    | some (j, b) => ∀ u, (tlAtV T j).p u w → (u = .bool b → GoodLV P R (fun w' => M (k + 1) w' ∧ (i ≠ d → D w → D w')) (tlAtV T i) (lkAV (tlAtV T i) ρ) w ((execOp ρ o).run P w)) ∧ (u ≠ .bool b → M (k + 1) w ∧ (tlAtV T i).p undef w ∧ (tlAtV T i).s undef (lkAV (tlAtV T i) ρ) w)
def OpsOkLV (P : Program) (R : World → World → Prop) (M : Nat → World → Prop) (d : Nat) (D : World → Prop) (l : List Oper) (a : Act) (T : List (TlV R)) (w0 : World) : Nat → List Oper → Prop
  | _, [] => True
  | i, o :: rest => OpOkLV P R M d D l a T w0 i o ∧ OpsOkLV P R M d D l a T w0 (i + 1) rest
/-- the values so far. -/
def pastPV (vs : Nat → Value) (i : Nat) (v : Value) : Nat → Value := fun j => if j = i then v else vs j
def EndAllLV (L : List Oper) (T : List (TlV R)) (w : World) (Q : Act → Prop) : Nat → List Oper → Act → (Nat → Value) → Prop
  | _, [], a, _ => Q a
  | i, o :: rest, a, vs => ∀ v, (tlAtV T i).p v w → (tlAtV T i).s v (lkvV L T vs i) w → EndAllLV L T w Q (i + 1) rest (a.put o.dst v) (pastPV vs i v)
def lkFitV (l : List Oper) (T : List (TlV R)) : Bool := (List.range l.length).all fun i => match (tlAtV T i).lk with
  | none => true
  | some t => match l[i]?, prodOf l t with | some o, some j => depOn o j && decide (j < i) | _, _ => false
theorem lkFit_atV {l : List Oper} {T : List (TlV R)} (h : lkFitV l T = true) {i t : Nat} {o : Oper} (ho : l[i]? = some o) (hl : (tlAtV T i).lk = some t) : ∃ j, prodOf l t = some j ∧ depOn o j = true ∧ j < i := by
  have hi : i < l.length := (List.getElem?_eq_some_iff.1 ho).1
  unfold lkFitV at h
  rw [List.all_eq_true] at h
  have := h i (List.mem_range.2 hi)
  simp only [hl, ho] at this
  cases hp : prodOf l t with
  | none => simp only [hp] at this; cases this
  | some j => simp only [hp] at this; simp at this; exact ⟨j, rfl, this⟩
theorem opsOkL_atV {M : Nat → World → Prop} {d : Nat} {D : World → Prop} {l : List Oper} {a : Act} {T : List (TlV R)} {w0 : World} : ∀ (m : List Oper) (i : Nat), OpsOkLV P R M d D l a T w0 i m → ∀ j o, m[j]? = some o → OpOkLV P R M d D l a T w0 (i + j) o
  | [], _, _, j, o, h => by simp at h
  | x :: m, i, h, 0, o, ho => by
    simp at ho; subst ho
    exact h.1
  | x :: m, i, h, j + 1, o, ho => by
    have := opsOkL_atV m (i + 1) h.2 j o (by simpa using ho)
    rwa [Nat.add_assoc, Nat.add_comm 1 j] at this

structure InvLV (M : Nat → World → Prop) (dd : Nat) (D : World → Prop) (l : List Oper) (a : Act) (T : List (TlV R)) (w0 : World) (listed : Array Bool) (vs : Nat → Value) (k : Nat) (a' : Act) (w' : World) : Prop where
  r : R w0 w'
  m : M k w'
  d : a'.defers = a.defers
  s : a'.tmps.size = a.tmps.size
  t : ∀ t, a'.tmps[t]? = (match prodOf l t with | some j => if listed.getD j true = true then (if t < a.tmps.size then some (vs j) else none) else a.tmps[t]? | none => a.tmps[t]?)
  f : ∀ j, j < l.length → listed.getD j true = true → (tlAtV T j).p (vs j) w' ∧ (tlAtV T j).s (vs j) (lkvV l T vs j) w'
  n : listed.getD dd true = false → D w'

theorem facts_of_invLV {M : Nat → World → Prop} {dd : Nat} {D : World → Prop} {l : List Oper} {a a' : Act} {T : List (TlV R)} {w0 w' : World} {listed : Array Bool} {vs : Nat → Value} {k : Nat} (h : InvLV M dd D l a T w0 listed vs k a' w') (o : Oper)
    (xs : List Operand) (hx : ∀ x ∈ xs, ∀ t j, x = .tmp t → prodOf l t = some j → if depOn o j = true then (listed.getD j true = true ∧ j < l.length ∧ t < a.tmps.size) else listed.getD j true = false) : factsOf l a (tysV T) a'.eval w' o xs := by
  induction xs with
  | nil => trivial
  | cons x xs ih =>
    refine ⟨?_, ih fun y hy => hx y (List.mem_cons_of_mem _ hy)⟩
    unfold factOf
    cases x with
    | tmp t =>
      simp only []
      have ht := h.t t
      unfold srcOf
      cases hp : prodOf l t with
      | none =>
        rw [hp] at ht
        simp only at ht ⊢
        show a'.tmps.getD t undef = a.tmps.getD t undef
        rw [Array.getD_eq_getD_getElem?, Array.getD_eq_getD_getElem?, ht]
      | some j =>
        rw [hp] at ht
        have hxx := hx (.tmp t) (List.mem_cons_self ..) t j rfl hp
        dsimp only
        cases hdep : depOn o j with
        | false =>
          rw [hdep] at hxx
          simp only [Bool.false_eq_true, if_false] at hxx
          simp only [hxx, Bool.false_eq_true, if_false] at ht ⊢
          show a'.tmps.getD t undef = a.tmps.getD t undef
          rw [Array.getD_eq_getD_getElem?, Array.getD_eq_getD_getElem?, ht]
        | true =>
        rw [hdep] at hxx
        simp only [if_true] at hxx
        obtain ⟨h1, h2, h3⟩ := hxx
        simp only [h1, if_true, h3] at ht
        simp only [if_true]
        rw [tyAt_tysV]
        show (tlAtV T j).p (a'.eval (.tmp t)) w'
        have : a'.eval (.tmp t) = vs j := by
          show a'.tmps.getD t undef = _
          rw [Array.getD_eq_getD_getElem?, ht]; rfl
        rw [this]
        exact (h.f j h2 h1).1
    | _ => rfl

theorem endAllL_goV {l : List Oper} {a : Act} {T : List (TlV R)} {w' : World} {Q : Act → Prop} {vs : Nat → Value} (hl : ∀ j o, l[j]? = some o → ∀ d, o.dst = some d → prodOf l d = some j) (hv : ∀ j, j < l.length → (tlAtV T j).p (vs j) w' ∧ (tlAtV T j).s (vs j) (lkvV l T vs j) w') (hlk : lkFitV l T = true) :
    ∀ (m : List Oper) (i : Nat) (b : Act) (ws : Nat → Value), (∀ j, j < i → ws j = vs j) → (∀ j, m[j]? = l[i + j]?) → UpTo l a vs i b → EndAllLV l T w' Q i m b ws → ∃ a', Q a' ∧ UpTo l a vs l.length a'
  | [], i, b, ws, hws, hm, hb, h => by
    refine ⟨b, h, hb.1, hb.2.1, fun t => ?_⟩
    rw [hb.2.2 t]
    have hi : l.length ≤ i := by
      have := (hm 0).symm
      simpa using this
    cases hp : prodOf l t with
    | none => rfl
    | some j =>
      have := prodOf_lt hp
      simp only [show j < i by omega, this, if_true]
  | o :: m, i, b, ws, hws, hm, hb, h => by
    have ho : l[i]? = some o := by simpa using (hm 0).symm
    have hil : i < l.length := (List.getElem?_eq_some_iff.1 ho).1
    have hlw : lkvV l T ws i = lkvV l T vs i := by
      unfold lkvV
      cases hlt : (tlAtV T i).lk with
      | none => rfl
      | some t =>
        obtain ⟨j, hp, _, hj⟩ := lkFit_atV hlk ho hlt
        simp only [hp]
        exact hws j hj
    have h1 := h (vs i) (hv i hil).1 (by rw [hlw]; exact (hv i hil).2)
    refine endAllL_goV hl hv hlk m (i + 1) (b.put o.dst (vs i)) (pastPV ws i (vs i)) (fun j hj => by
      unfold pastPV
      by_cases hji : j = i
      · rw [if_pos hji, hji]
      · rw [if_neg hji]; exact hws j (by omega)) (fun j => by have := hm (j + 1); simpa [Nat.add_assoc, Nat.add_comm 1 j] using this) ⟨?_, ?_, fun t => ?_⟩ h1
    · rw [← hb.1]; cases o.dst <;> rfl
    · rw [← hb.2.1]; cases o.dst <;> simp [Act.put]
    · have ht := hb.2.2 t
      cases hd : o.dst with
      | none =>
        show b.tmps[t]? = _
        rw [ht]
        cases hp : prodOf l t with
        | none => rfl
        | some j =>
          have hne : j ≠ i := prod_ne ho (by rw [hd]; simp) hp
          simp only []
          by_cases hj : j < i
          · simp only [hj, show j < i + 1 by omega]
          · simp only [hj, show ¬ j < i + 1 by omega]
      | some d =>
        have hpd := hl i o ho d hd
        by_cases hdt : d = t
        · subst hdt
          rw [hpd]
          simp only [show i < i + 1 by omega, if_true]
          show (b.tmps.setIfInBounds d (vs i))[d]? = _
          rw [Array.getElem?_setIfInBounds_self]
          rw [hb.2.1]
        · show (b.tmps.setIfInBounds d (vs i))[t]? = _
          rw [Array.getElem?_setIfInBounds_ne hdt, ht]
          cases hp : prodOf l t with
          | none => rfl
          | some j =>
            have hne : j ≠ i := prod_ne ho (by rw [hd]; simpa using hdt) hp
            simp only []
            by_cases hj : j < i
            · simp only [hj, show j < i + 1 by omega]
            · simp only [hj, show ¬ j < i + 1 by omega]

theorem oper_wp_of_goodLV {M : World → Prop} {T : TlV R} {u : Value} {w : World} {o : Oper} {a : Act} {K : Act → World → Prop} {Q : Exit → Act → World → Prop}
    (h : GoodLV P R M T u w ((execOp a.eval o).run P w)) (hK : ∀ v w', R w w' → M w' → T.p v w' → T.s v u w' → K (a.put o.dst v) w') : o.wp P a w K Q := by
  unfold Oper.wp
  generalize (execOp a.eval o).run P w = r at *
  cases r with
  | ok n w' =>
    cases n <;> simp only [GoodLV] at h <;> simp only [Oper.upon]
    case value u => exact hK _ _ h.1 h.2.1 h.2.2.1 h.2.2.2
    case skip => exact hK _ _ h.1 h.2.1 h.2.2.1 h.2.2.2
    case enter f args => exact h.mono fun e w'' ⟨v, he, h1, h2, h3, h4⟩ => by subst he; exact hK _ _ h1 h2 h3 h4
  | halt x w' => exact h.elim

theorem wpAny_everLV {M : Nat → World → Prop} {dd : Nat} {D : World → Prop} {l : List Oper} {a : Act} {T : List (TlV R)} {w0 : World} {Q : Exit → Act → World → Prop} (hrefl : ∀ a, R a a) (trans : ∀ a b c, R a b → R b c → R a c)
    (hB : regFit l a.tmps.size 0 l = true) (hlk : lkFitV l T = true) (hops : OpsOkLV P R M dd D l a T w0 0 l) (hend : ∀ w', R w0 w' → M l.length w' → EndAllLV l T w' (fun a' => Q .normal a' w') 0 l a (fun _ => undef)) :
    ∀ (fuel k : Nat) (listed : Array Bool) (vs : Nat → Value) (a' : Act) (w' : World), fuel + k = l.length → listed.size = l.length → openN l.length listed = fuel → (∀ j, j < l.length → listed.getD j true = true → ∀ o, l[j]? = some o → ∀ e ∈ o.after, Region.binds .any e = true → listed.getD e.on false = true) → InvLV M dd D l a T w0 listed vs k a' w' → wpAny P .any l.toArray Q fuel listed a' w' := by
  have hdone : ∀ (k : Nat) (listed : Array Bool) (vs : Nat → Value) (a' : Act) (w' : World), k = l.length → (∀ j, j < l.length → listed.getD j true = true) → InvLV M dd D l a T w0 listed vs k a' w' → Q .normal a' w' := by
    intro k listed vs a' w' hk hall hi
    subst hk
    have hu : UpTo l a vs 0 a := ⟨rfl, rfl, fun t => by cases prodOf l t <;> simp⟩
    obtain ⟨b, hq, hb⟩ := endAllL_goV (T := T) (w' := w') (Q := fun a' => Q .normal a' w') (vs := vs) (l := l) (a := a)
      (fun j o ho d hd => by
        have := regFit_at l 0 hB j o ho
        unfold opFit at this
        simp only [Bool.and_eq_true, hd, Nat.zero_add] at this
        have h2 := this.1.2
        simp at h2
        exact h2.1)
      (fun j hj => hi.f j hj (hall j hj)) hlk l 0 a (fun _ => undef) (fun j hj => absurd hj (by omega)) (fun j => by simp) hu (hend w' hi.r hi.m)
    have hc : UpTo l a vs l.length a' := ⟨hi.d, hi.s, fun t => by
      rw [hi.t t]
      cases hp : prodOf l t with
      | none => rfl
      | some j =>
        have := prodOf_lt hp
        simp only [hall j this, this, if_true]⟩
    rw [upTo_ext hc hb]
    exact hq
  intro fuel
  induction fuel with
  | zero =>
    intro k listed vs a' w' hk hsz ho _ hi
    have hall : ∀ j, j < l.length → listed.getD j true = true := by
      intro j hj
      cases hlj : listed.getD j true with
      | true => rfl
      | false =>
        have := openN_set hj hlj
        omega
    refine ⟨?_, hdone k listed vs a' w' (by omega) hall hi⟩
    rw [List.eq_nil_iff_forall_not_mem]
    intro i hmem
    rw [mem_ready] at hmem
    obtain ⟨h1, o, ho', _⟩ := hmem
    have : i < l.length := by simpa using (Array.getElem?_eq_some_iff.1 ho').1
    rw [hall i this] at h1
    cases h1
  | succ fuel ih =>
    intro k listed vs a' w' hk hsz ho hcl hi
    refine ⟨fun hnil => ?_, fun i hmem => ?_⟩
    · exfalso
      have least : ∀ j, j < l.length → listed.getD j true = false → False := by
        intro j
        induction j using Nat.strongRecOn with
        | ind j ihj =>
          intro hj hlj
          have hol : l[j]? = some l[j] := List.getElem?_eq_getElem hj
          have hfit := regFit_at l 0 hB j _ hol
          rw [Nat.zero_add] at hfit
          unfold opFit at hfit
          simp only [Bool.and_eq_true] at hfit
          have haft := hfit.2
          have : j ∈ Region.ready .any l.toArray listed := by
            rw [mem_ready]
            refine ⟨hlj, l[j], by simp [hol], fun e he hb => ?_⟩
            rw [Array.all_eq_true_iff_forall_mem] at haft
            have h1 := haft e he
            rw [hb] at h1
            simp at h1
            cases h2 : listed.getD e.on true with
            | false => exact (ihj e.on h1 (by omega) h2).elim
            | true =>
              have h3 : e.on < listed.size := by omega
              simp [h3] at h2 ⊢
              exact h2
          rw [hnil] at this
          cases this
      obtain ⟨j, hj, hlj⟩ := openN_pos (n := l.length) (listed := listed) (by omega)
      exact least j hj hlj
    · rw [mem_ready] at hmem
      obtain ⟨h1, o, ho', h2⟩ := hmem
      have hlt : i < l.length := by simpa using (Array.getElem?_eq_some_iff.1 ho').1
      have hol : l[i]? = some o := by simpa using ho'
      have hfit := regFit_at l 0 hB i o hol
      rw [Nat.zero_add] at hfit
      unfold opFit at hfit
      simp only [Bool.and_eq_true] at hfit
      obtain ⟨⟨⟨⟨hg, hs⟩, hopd⟩, hdst⟩, haft⟩ := hfit
      have hok := opsOkL_atV l 0 hops i o hol
      rw [Nat.zero_add] at hok
      have hfacts : factsOf l a (tysV T) a'.eval w' o o.op.operands.toList := facts_of_invLV hi o _ fun x hx t j hxt hp => by
        subst hxt
        rw [List.all_eq_true] at hopd
        have := hopd _ hx
        simp only [hp, Bool.or_eq_true, beq_iff_eq] at this
        by_cases hdep : depOn o j = true
        case neg =>
          rw [if_neg hdep]
          rcases this with h | h | h
          · exact absurd h hdep
          · rw [h]; exact h1
          · cases hlj : listed.getD j true with
            | false => rfl
            | true =>
              have := reach_listed hcl _ _ _ hlj h (prodOf_lt hp)
              rw [h1] at this; cases this
        rw [if_pos hdep]
        obtain ⟨e, he, hee⟩ := List.any_eq_true.1 hdep
        rw [Array.mem_toList_iff] at he
        simp only [Bool.and_eq_true, beq_iff_eq] at hee
        have h3 := h2 e he hee.2
        rw [hee.1] at h3
        have hj := prodOf_lt hp
        refine ⟨?_, hj, ?_⟩
        · rw [Array.getD_eq_getD_getElem?] at h3 ⊢
          cases hx : listed[j]? with
          | none => rfl
          | some b => rw [hx] at h3; simpa using h3
        · have h4 := hp
          unfold prodOf at h4
          rw [List.findIdx?_eq_some_iff_getElem] at h4
          obtain ⟨_, h5, _⟩ := h4
          have h6 := regFit_at l 0 hB j l[j] (List.getElem?_eq_getElem hj)
          unfold opFit at h6
          simp only [Bool.and_eq_true] at h6
          have h7 := h6.1.2
          have h8 : l[j].dst = some t := by simpa using h5
          rw [h8] at h7
          simp at h7
          exact h7.2
      have hD : (i == dd || reach l l.length dd i) = true → D w' := by
        intro hr
        refine hi.n ?_
        rw [Bool.or_eq_true, beq_iff_eq] at hr
        rcases hr with rfl | hr
        · exact h1
        · cases hlj : listed.getD dd true with
          | false => rfl
          | true =>
            by_cases hdl : dd < l.length
            · have := reach_listed hcl _ _ _ hlj hr hdl
              rw [h1] at this; cases this
            · generalize l.length = n at hr
              cases n with
              | zero => cases hr
              | succ n =>
                unfold reach at hr
                rw [List.getElem?_eq_none (by omega)] at hr
                cases hr
      have hgood := hok k w' a'.eval (by omega) hi.r hi.m hD hfacts
      have hgo : (Region.wanted o (yielded l.toArray a'.tmps) = true ∧ GoodLV P R (fun w'' => M (k + 1) w'' ∧ (i ≠ dd → D w' → D w'')) (tlAtV T i) (lkAV (tlAtV T i) a'.eval) w' ((execOp a'.eval o).run P w')) ∨ (Region.wanted o (yielded l.toArray a'.tmps) = false ∧ M (k + 1) w' ∧ (tlAtV T i).p undef w' ∧ (tlAtV T i).s undef (lkAV (tlAtV T i) a'.eval) w') := by
        cases hgo : o.guard with
        | none =>
          rw [hgo] at hgood
          exact .inl ⟨by simp [Region.wanted, hgo], hgood⟩
        | some g =>
          obtain ⟨j, b⟩ := g
          rw [hgo] at hgood hg
          simp only [Bool.and_eq_true] at hg
          obtain ⟨hg1, hg2⟩ := hg
          obtain ⟨e, he, hee⟩ := List.any_eq_true.1 hg1
          rw [Array.mem_toList_iff] at he
          simp only [Bool.and_eq_true, beq_iff_eq] at hee
          have h3 := h2 e he hee.2
          rw [hee.1] at h3
          have h3' : listed.getD j true = true := by
            rw [Array.getD_eq_getD_getElem?] at h3 ⊢
            cases hx : listed[j]? with
            | none => rfl
            | some b => rw [hx] at h3; simpa using h3
          cases hlj : l[j]? with
          | none => rw [hlj] at hg2; cases hg2
          | some oj =>
            rw [hlj] at hg2
            simp only [Option.isSome_iff_exists] at hg2
            obtain ⟨d, hd⟩ := hg2
            have hjl : j < l.length := (List.getElem?_eq_some_iff.1 hlj).1
            have hfj := regFit_at l 0 hB j oj hlj
            unfold opFit at hfj
            simp only [Bool.and_eq_true, hd, Nat.zero_add] at hfj
            have h4 := hfj.1.2
            simp at h4
            have h5 := hi.t d
            rw [h4.1] at h5
            simp only [h3', if_true, h4.2] at h5
            have hy : yielded l.toArray a'.tmps j = (match vs j with | .bool b => some b | _ => none) := by
              unfold yielded
              simp only [List.getElem?_toArray, hlj, Option.bind_some, hd, h5]
              cases vs j <;> rfl
            have h6 := hgood (vs j) (hi.f j hjl h3').1
            by_cases hv : vs j = .bool b
            · refine .inl ⟨?_, h6.1 hv⟩
              simp [Region.wanted, hgo, hy, hv]
            · refine .inr ⟨?_, h6.2 hv⟩
              simp only [Region.wanted, hgo, hy]
              cases hvj : vs j <;> simp_all
      have hlink : lkAV (tlAtV T i) a'.eval = lkvV l T vs i := by
        unfold lkAV lkvV
        cases hlt : (tlAtV T i).lk with
        | none => rfl
        | some t =>
          obtain ⟨j, hp, hdep, _⟩ := lkFit_atV hlk hol hlt
          simp only [hp]
          obtain ⟨e, he, hee⟩ := List.any_eq_true.1 hdep
          rw [Array.mem_toList_iff] at he
          simp only [Bool.and_eq_true, beq_iff_eq] at hee
          have h3 := h2 e he hee.2
          rw [hee.1] at h3
          have hjt : listed.getD j true = true := by
            rw [Array.getD_eq_getD_getElem?] at h3 ⊢
            cases hx : listed[j]? with
            | none => rfl
            | some b => rw [hx] at h3; simpa using h3
          have hjl := prodOf_lt hp
          have h4 := hp
          unfold prodOf at h4
          rw [List.findIdx?_eq_some_iff_getElem] at h4
          obtain ⟨_, h5, _⟩ := h4
          have h6 := regFit_at l 0 hB j l[j] (List.getElem?_eq_getElem hjl)
          unfold opFit at h6
          simp only [Bool.and_eq_true] at h6
          have h7 := h6.1.2
          have h8 : l[j].dst = some t := by simpa using h5
          rw [h8] at h7
          simp at h7
          have ht := hi.t t
          rw [hp] at ht
          simp only [hjt, if_true, h7.2] at ht
          show a'.tmps.getD t undef = vs j
          rw [Array.getD_eq_getD_getElem?, ht]; rfl
      have hfin : ∀ v w'', R w' w'' → (M (k + 1) w'' ∧ (i ≠ dd → D w' → D w'')) → (tlAtV T i).p v w'' → (tlAtV T i).s v (lkAV (tlAtV T i) a'.eval) w'' → wpAny P .any l.toArray Q fuel (listed.setIfInBounds i true) (a'.put o.dst v) w'' := by
       intro v w'' hr hm hT hS
       rw [hlink] at hS
       have hsame : ∀ j, j < l.length → (listed.getD j true = true ∨ j = i) → lkvV l T (fun j => if j = i then v else vs j) j = lkvV l T vs j := by
         intro j hj hjl
         unfold lkvV
         cases hlt : (tlAtV T j).lk with
         | none => rfl
         | some t =>
           have hoj : l[j]? = some l[j] := List.getElem?_eq_getElem hj
           obtain ⟨q, hp, hdep, hqj⟩ := lkFit_atV hlk hoj hlt
           simp only [hp]
           have hqi : q ≠ i := by
             rcases hjl with hjl | rfl
             · intro e0
               obtain ⟨e, he, hee⟩ := List.any_eq_true.1 hdep
               rw [Array.mem_toList_iff] at he
               simp only [Bool.and_eq_true, beq_iff_eq] at hee
               have h3 := hcl j hj hjl _ hoj e he hee.2
               rw [hee.1, e0] at h3
               have : listed.getD i true = true := by
                 rw [Array.getD_eq_getD_getElem?] at h3 ⊢
                 cases hx : listed[i]? with
                 | none => rfl
                 | some b => rw [hx] at h3; simpa using h3
               rw [h1] at this; cases this
             · omega
           rw [if_neg hqi]
       refine ih (k + 1) _ (fun j => if j = i then v else vs j) _ _ (by omega) (by simpa using hsz) (by have := openN_set hlt h1; omega) ?_ ⟨trans _ _ _ hi.r hr, hm.1, ?_, ?_, ?_, ?_, ?_⟩
       · intro j hj hlj oj hoj e he hb
         by_cases hji : j = i
         · subst hji
           rw [hol] at hoj
           injection hoj with hoj
           subst hoj
           exact getD_set_true (h2 e he hb)
         · rw [getD_set_ne true (Ne.symm hji)] at hlj
           exact getD_set_true (hcl j hj hlj oj hoj e he hb)
       · rw [← hi.d]; cases o.dst <;> rfl
       · rw [← hi.s]; cases o.dst <;> simp [Act.put]
       · intro t
         have ht := hi.t t
         cases hd : o.dst with
         | none =>
           show a'.tmps[t]? = _
           rw [ht]
           cases hp : prodOf l t with
           | none => rfl
           | some j =>
             have hne : j ≠ i := prod_ne hol (by rw [hd]; simp) hp
             simp only [if_neg hne, getD_set_ne true (Ne.symm hne)]
         | some d =>
           rw [hd] at hdst
           simp at hdst
           by_cases hdt : d = t
           · subst hdt
             rw [hdst.1]
             have h3 : (listed.setIfInBounds i true).getD i true = true := by simp [hsz, hlt]
             simp only [h3, if_true, hdst.2]
             show (a'.tmps.setIfInBounds d v)[d]? = _
             rw [Array.getElem?_setIfInBounds_self, hi.s, if_pos hdst.2]
           · show (a'.tmps.setIfInBounds d v)[t]? = _
             rw [Array.getElem?_setIfInBounds_ne hdt, ht]
             cases hp : prodOf l t with
             | none => rfl
             | some j =>
               have hne : j ≠ i := prod_ne hol (by rw [hd]; simpa using hdt) hp
               simp only [if_neg hne, getD_set_ne true (Ne.symm hne)]
       · intro j hj hlj
         by_cases hji : j = i
         · rw [hsame j hj (.inr hji)]
           subst hji
           exact ⟨by simpa using hT, by rw [if_pos rfl]; exact hS⟩
         · rw [getD_set_ne true (Ne.symm hji)] at hlj
           rw [hsame j hj (.inl hlj)]
           simp only [if_neg hji]
           exact ⟨(tlAtV T j).up _ _ _ hr (hi.f j hj hlj).1, (tlAtV T j).us _ _ _ _ hr (hi.f j hj hlj).2⟩
       · intro hn
         have hne : dd ≠ i := by
           intro e0
           subst e0
           rw [show (listed.setIfInBounds dd true).getD dd true = true by simp [hsz, hlt]] at hn
           cases hn
         rw [getD_set_ne true (Ne.symm hne)] at hn
         exact hm.2 (Ne.symm hne) (hi.n hn)
      unfold wpOp
      simp only [ho']
      rcases hgo with ⟨hw, hgd⟩ | ⟨hw, hm, hT, hS⟩
      · rw [if_pos hw]
        exact .inl (oper_wp_of_goodLV hgd hfin)
      · rw [if_neg (by rw [hw]; simp)]
        exact hfin undef w' (hrefl _) ⟨hm, fun _ h => h⟩ hT hS

/-- the law. -/
theorem wp_region_everLV {M : Nat → World → Prop} {l : List Oper} {a : Act} {w : World} {Q : Exit → Act → World → Prop} {id : Nat} (d : Nat) (D : World → Prop) (T : List (TlV R)) (hm : P.follows .mixedOrders = true) (hrefl : ∀ a, R a a) (trans : ∀ a b c, R a b → R b c → R a c)
    (hB : regFit l a.tmps.size 0 l = true) (hlk : lkFitV l T = true) (h0 : M 0 w.drew) (hD0 : D w.drew) (hops : OpsOkLV P R M d D l a T w.drew 0 l) (hend : ∀ w', R w.drew w' → M l.length w' → EndAllLV l T w' (fun a' => Q .normal a' w') 0 l a (fun _ => undef)) : (Code.region id l.toArray true).wp P Q a w := by
  refine wp_region_any hm ?_
  refine wpAny_everLV (M := M) (dd := d) (D := D) (T := T) (w0 := w.drew) hrefl trans hB hlk hops hend _ 0 _ (fun _ => undef) a _ (by simp) (by simp) (by simp [openN_all]) (fun j hj h => by simp [hj] at h) ⟨hrefl _, h0, rfl, rfl, fun t => ?_, fun j hj h => ?_, fun _ => hD0⟩
  · cases hp : prodOf l t with
    | none => rfl
    | some j =>
      have := prodOf_lt hp
      simp [this]
  · simp [hj] at h

theorem goodL_ofV {M : World → Prop} {T : TlV R} {u : Value} {w : World} {r : Result Next} (hs : ∀ v w, T.s v u w) (h : ∀ K : Value → World → Prop, (∀ v w'', R w w'' → M w'' → T.p v w'' → K v w'') → GoodK P K r) : GoodLV P R M T u w r := by
  have := h (fun v w'' => R w w'' ∧ M w'' ∧ T.p v w'' ∧ T.s v u w'') (fun v w'' h1 h2 h3 => ⟨h1, h2, h3, hs _ _⟩)
  cases r with
  | ok n w' => cases n <;> exact this
  | halt x w' => exact this
theorem goodL_ofsV {M : World → Prop} {T : TlV R} {u : Value} {w : World} {r : Result Next} (h : ∀ K : Value → World → Prop, (∀ v w'', R w w'' → M w'' → T.p v w'' → T.s v u w'' → K v w'') → GoodK P K r) : GoodLV P R M T u w r := by
  have := h (fun v w'' => R w w'' ∧ M w'' ∧ T.p v w'' ∧ T.s v u w'') (fun v w'' h1 h2 h3 h4 => ⟨h1, h2, h3, h4⟩)
  cases r with
  | ok n w' => cases n <;> exact this
  | halt x w' => exact this

end

end Go.Proofs.Ytjcdklkdpcncgaa
