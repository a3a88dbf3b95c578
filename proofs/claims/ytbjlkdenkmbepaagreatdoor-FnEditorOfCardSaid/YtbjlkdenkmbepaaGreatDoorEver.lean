/- What is proved here: a law for regions whose order is drawn: each operation gives a value of which a lasting fact is known, and keeps a running fact on the world. No condition. -/
import Derived.Test.YtbjlkdenkmbepaaGreatDoorMem
import Derived.Orders
namespace Go.Proofs.YtbjlkdenkmbepaaGreatDoor
open Go.RowKit

/-- a fact on a value that lasts when the world goes on. -/
structure Ty (R : World → World → Prop) where
  p : Value → World → Prop
  up : ∀ v w w', R w w' → p v w → p v w'

section
variable {P : Program} {R : World → World → Prop}

def tyAny (R : World → World → Prop) : Ty R := ⟨fun _ _ => True, fun _ _ _ _ _ => trivial⟩
def tyAt (T : List (Ty R)) (i : Nat) : Ty R := match T[i]? with | some t => t | none => tyAny R
/-- the operation that writes a slot. -/
def prodOf (l : List Oper) (t : Nat) : Option Nat := l.findIdx? fun o => o.dst == some t
/-- operation o waits for number j. -/
def depOn (o : Oper) (j : Nat) : Bool := o.after.toList.any fun e => e.on == j && Region.binds .any e
/-- number j waits, perhaps through others, for number i. -/
def reach (l : List Oper) : Nat → Nat → Nat → Bool
  | 0, _, _ => false
  | n + 1, j, i => match l[j]? with | some o => o.after.toList.any fun e => Region.binds .any e && (e.on == i || reach l n e.on i) | none => false
def srcOf (l : List Oper) (o : Oper) (t : Nat) : Option Nat := match prodOf l t with | some j => if depOn o j then some j else none | none => none
def factOf (l : List Oper) (a : Act) (T : List (Ty R)) (ρ : Operand → Value) (w : World) (o : Oper) (x : Operand) : Prop :=
  match x with
  | .tmp t => match srcOf l o t with | some j => (tyAt T j).p (ρ (.tmp t)) w | none => ρ (.tmp t) = a.eval (.tmp t)
  | y => ρ y = a.eval y
def factsOf (l : List Oper) (a : Act) (T : List (Ty R)) (ρ : Operand → Value) (w : World) (o : Oper) : List Operand → Prop
  | [] => True
  | x :: xs => factOf l a T ρ w o x ∧ factsOf l a T ρ w o xs
def Good (P : Program) (R : World → World → Prop) (M : World → Prop) (T : Ty R) (w : World) : Result Next → Prop
  | .ok (.value v) w' => R w w' ∧ M w' ∧ T.p v w'
  | .ok .skip w' => R w w' ∧ M w' ∧ T.p undef w'
  | .ok (.enter f args) w' => Calls P f args w' fun e w'' => ∃ v, e = .returned v ∧ R w w'' ∧ M w'' ∧ T.p v w''
  | _ => False
def OpOk (P : Program) (R : World → World → Prop) (M : Nat → World → Prop) (l : List Oper) (a : Act) (T : List (Ty R)) (w0 : World) (i : Nat) (o : Oper) : Prop :=
  ∀ k w ρ, k < l.length → R w0 w → M k w → factsOf l a T ρ w o o.op.operands.toList →
    match o.guard with
    | none => Good P R (M (k + 1)) (tyAt T i) w ((execOp ρ o).run P w)
    | some (j, b) => ∀ u, (tyAt T j).p u w → (u = .bool b → Good P R (M (k + 1)) (tyAt T i) w ((execOp ρ o).run P w)) ∧ (u ≠ .bool b → M (k + 1) w ∧ (tyAt T i).p undef w)
def OpsOk (P : Program) (R : World → World → Prop) (M : Nat → World → Prop) (l : List Oper) (a : Act) (T : List (Ty R)) (w0 : World) : Nat → List Oper → Prop
  | _, [] => True
  | i, o :: rest => OpOk P R M l a T w0 i o ∧ OpsOk P R M l a T w0 (i + 1) rest
def EndAll (T : List (Ty R)) (w : World) (Q : Act → Prop) : Nat → List Oper → Act → Prop
  | _, [], a => Q a
  | i, o :: rest, a => ∀ v, (tyAt T i).p v w → EndAll T w Q (i + 1) rest (a.put o.dst v)

/-- what the law asks of a region's text. -/
def opFit (l : List Oper) (n : Nat) (i : Nat) (o : Oper) : Bool :=
  (match o.guard with | none => true | some (j, _) => depOn o j && (match l[j]? with | some oj => oj.dst.isSome | none => false)) && (match o.op with | .select _ _ => false | _ => true) &&
  (o.op.operands.toList.all fun x => match x with
    | .tmp t => (match prodOf l t with | some j => depOn o j || (j == i || reach l l.length j i) | none => true)
    | _ => true) &&
  (match o.dst with | some d => prodOf l d == some i && decide (d < n) | none => true) &&
  o.after.all (fun e => !Region.binds .any e || decide (e.on < i))
def regFit (l : List Oper) (n : Nat) : Nat → List Oper → Bool
  | _, [] => true
  | i, o :: rest => opFit l n i o && regFit l n (i + 1) rest

theorem regFit_at {l : List Oper} {n : Nat} : ∀ (m : List Oper) (i : Nat), regFit l n i m = true → ∀ j o, m[j]? = some o → opFit l n (i + j) o = true
  | [], _, _, j, o, h => by simp at h
  | x :: m, i, h, 0, o, ho => by
    simp at ho; subst ho
    simp only [regFit, Bool.and_eq_true] at h
    exact h.1
  | x :: m, i, h, j + 1, o, ho => by
    simp only [regFit, Bool.and_eq_true] at h
    have := regFit_at m (i + 1) h.2 j o (by simpa using ho)
    rwa [Nat.add_assoc, Nat.add_comm 1 j] at this
theorem opsOk_at {M : Nat → World → Prop} {l : List Oper} {a : Act} {T : List (Ty R)} {w0 : World} : ∀ (m : List Oper) (i : Nat), OpsOk P R M l a T w0 i m → ∀ j o, m[j]? = some o → OpOk P R M l a T w0 (i + j) o
  | [], _, _, j, o, h => by simp at h
  | x :: m, i, h, 0, o, ho => by
    simp at ho; subst ho
    exact h.1
  | x :: m, i, h, j + 1, o, ho => by
    have := opsOk_at m (i + 1) h.2 j o (by simpa using ho)
    rwa [Nat.add_assoc, Nat.add_comm 1 j] at this

/-- the operations that are still to come. -/
def openN (n : Nat) (listed : Array Bool) : Nat := ((List.range n).filter fun i => !listed.getD i true).length

theorem openN_set {n : Nat} {listed : Array Bool} {i : Nat} (hi : i < n) (h : listed.getD i true = false) : openN n (listed.setIfInBounds i true) + 1 = openN n listed := by
  have hlt : i < listed.size := by
    rcases Nat.lt_or_ge i listed.size with h' | h'
    · exact h'
    · simp [Array.getElem?_eq_none h'] at h
  have key : ∀ (xs : List Nat), xs.Nodup → (xs.filter fun j => !(listed.setIfInBounds i true).getD j true).length + (if i ∈ xs then 1 else 0) = (xs.filter fun j => !listed.getD j true).length := by
    intro xs
    induction xs with
    | nil => intro _; simp
    | cons x xs ih =>
      intro hnd
      rw [List.nodup_cons] at hnd
      have := ih hnd.2
      by_cases hx : x = i
      · subst hx
        have h1 : (listed.setIfInBounds x true).getD x true = true := by simp [hlt]
        rw [List.filter_cons, List.filter_cons, h1, h]
        rw [if_neg hnd.1] at this
        simp only [List.mem_cons_self, if_true, Bool.not_true, Bool.not_false, List.length_cons, Bool.false_eq_true, if_false]
        omega
      · have h1 : (listed.setIfInBounds i true).getD x true = listed.getD x true := getD_set_ne true (Ne.symm hx)
        rw [List.filter_cons, List.filter_cons, h1]
        have hm : (i ∈ x :: xs) = (i ∈ xs) := by simp [Ne.symm hx]
        simp only [hm]
        cases listed.getD x true
        · simp only [Bool.not_false, if_true, List.length_cons]; omega
        · simp only [Bool.not_true, Bool.false_eq_true, if_false]; exact this
  have := key (List.range n) List.nodup_range
  rw [if_pos (List.mem_range.2 hi)] at this
  exact this
theorem openN_pos {n : Nat} {listed : Array Bool} (h : 0 < openN n listed) : ∃ j, j < n ∧ listed.getD j true = false := by
  unfold openN at h
  obtain ⟨j, hj⟩ := List.exists_mem_of_length_pos h
  rw [List.mem_filter, List.mem_range] at hj
  exact ⟨j, hj.1, by simpa using hj.2⟩
theorem openN_all (n : Nat) : openN n (Array.replicate n false) = n := by
  unfold openN
  rw [List.filter_eq_self.2]
  · simp
  · intro i hi
    rw [List.mem_range] at hi
    simp [hi]
theorem prod_ne {l : List Oper} {i j t : Nat} {o : Oper} (ho : l[i]? = some o) (hd : o.dst ≠ some t) (hp : l.findIdx? (fun o => o.dst == some t) = some j) : j ≠ i := by
  intro e
  subst e
  rw [List.findIdx?_eq_some_iff_getElem] at hp
  obtain ⟨h1, h2, _⟩ := hp
  rw [List.getElem?_eq_getElem h1] at ho
  injection ho with ho
  rw [ho] at h2
  exact hd (by simpa using h2)

structure Inv (M : Nat → World → Prop) (l : List Oper) (a : Act) (T : List (Ty R)) (w0 : World) (listed : Array Bool) (vs : Nat → Value) (k : Nat) (a' : Act) (w' : World) : Prop where
  r : R w0 w'
  m : M k w'
  d : a'.defers = a.defers
  s : a'.tmps.size = a.tmps.size
  t : ∀ t, a'.tmps[t]? = (match prodOf l t with | some j => if listed.getD j true = true then (if t < a.tmps.size then some (vs j) else none) else a.tmps[t]? | none => a.tmps[t]?)
  f : ∀ j, j < l.length → listed.getD j true = true → (tyAt T j).p (vs j) w'

theorem facts_of_inv {M : Nat → World → Prop} {l : List Oper} {a a' : Act} {T : List (Ty R)} {w0 w' : World} {listed : Array Bool} {vs : Nat → Value} {k : Nat} (h : Inv M l a T w0 listed vs k a' w') (o : Oper)
    (xs : List Operand) (hx : ∀ x ∈ xs, ∀ t j, x = .tmp t → prodOf l t = some j → if depOn o j = true then (listed.getD j true = true ∧ j < l.length ∧ t < a.tmps.size) else listed.getD j true = false) : factsOf l a T a'.eval w' o xs := by
  induction xs with
  | nil => trivial
  | cons x xs ih =>
    refine ⟨?_, ih fun y hy => hx y (List.mem_cons_of_mem _ hy)⟩
    unfold factOf
    cases x with
    | tmp t =>
      simp only []
      have ht := h.t t
      unfold srcOf
      cases hp : prodOf l t with
      | none =>
        rw [hp] at ht
        simp only at ht ⊢
        show a'.tmps.getD t undef = a.tmps.getD t undef
        rw [Array.getD_eq_getD_getElem?, Array.getD_eq_getD_getElem?, ht]
      | some j =>
        rw [hp] at ht
        have hxx := hx (.tmp t) (List.mem_cons_self ..) t j rfl hp
        dsimp only
        cases hdep : depOn o j with
        | false =>
          rw [hdep] at hxx
          simp only [Bool.false_eq_true, if_false] at hxx
          simp only [hxx, Bool.false_eq_true, if_false] at ht ⊢
          show a'.tmps.getD t undef = a.tmps.getD t undef
          rw [Array.getD_eq_getD_getElem?, Array.getD_eq_getD_getElem?, ht]
        | true =>
        rw [hdep] at hxx
        simp only [if_true] at hxx
        obtain ⟨h1, h2, h3⟩ := hxx
        simp only [h1, if_true, h3] at ht
        simp only [if_true]
        show (tyAt T j).p (a'.eval (.tmp t)) w'
        have : a'.eval (.tmp t) = vs j := by
          show a'.tmps.getD t undef = _
          rw [Array.getD_eq_getD_getElem?, ht]; rfl
        rw [this]
        exact h.f j h2 h1
    | _ => rfl

theorem reach_listed {l : List Oper} {listed : Array Bool} (hcl : ∀ j, j < l.length → listed.getD j true = true → ∀ o, l[j]? = some o → ∀ e ∈ o.after, Region.binds .any e = true → listed.getD e.on false = true) :
    ∀ (n j i : Nat), listed.getD j true = true → reach l n j i = true → j < l.length → listed.getD i true = true
  | 0, _, _, _, h, _ => by cases h
  | n + 1, j, i, hj, h, hjl => by
    unfold reach at h
    rw [List.getElem?_eq_getElem hjl] at h
    simp only at h
    obtain ⟨e, he, hee⟩ := List.any_eq_true.1 h
    rw [Array.mem_toList_iff] at he
    simp only [Bool.and_eq_true, Bool.or_eq_true, beq_iff_eq] at hee
    have h1 := hcl j hjl hj _ (List.getElem?_eq_getElem hjl) e he hee.1
    have h2 : listed.getD e.on true = true := by
      rw [Array.getD_eq_getD_getElem?] at h1 ⊢
      cases hx : listed[e.on]? with
      | none => rfl
      | some b => rw [hx] at h1; simpa using h1
    rcases hee.2 with h3 | h3
    · rw [← h3]; exact h2
    · by_cases hel : e.on < l.length
      · exact reach_listed hcl n e.on i h2 h3 hel
      · cases n with
        | zero => cases h3
        | succ n =>
          unfold reach at h3
          rw [List.getElem?_eq_none (by omega)] at h3
          cases h3

theorem prodOf_lt {l : List Oper} {t j : Nat} (h : prodOf l t = some j) : j < l.length := by
  unfold prodOf at h
  rw [List.findIdx?_eq_some_iff_getElem] at h
  exact h.1

/-- the frame in which the first i operations have put their values. -/
def UpTo (l : List Oper) (a : Act) (vs : Nat → Value) (i : Nat) (b : Act) : Prop :=
  b.defers = a.defers ∧ b.tmps.size = a.tmps.size ∧ ∀ t, b.tmps[t]? = (match prodOf l t with | some j => if j < i then (if t < a.tmps.size then some (vs j) else none) else a.tmps[t]? | none => a.tmps[t]?)

theorem endAll_go {l : List Oper} {a : Act} {T : List (Ty R)} {w' : World} {Q : Act → Prop} {vs : Nat → Value} (hl : ∀ j o, l[j]? = some o → ∀ d, o.dst = some d → prodOf l d = some j) (hv : ∀ j, j < l.length → (tyAt T j).p (vs j) w') :
    ∀ (m : List Oper) (i : Nat) (b : Act), (∀ j, m[j]? = l[i + j]?) → UpTo l a vs i b → EndAll T w' Q i m b → ∃ a', Q a' ∧ UpTo l a vs l.length a'
  | [], i, b, hm, hb, h => by
    refine ⟨b, h, hb.1, hb.2.1, fun t => ?_⟩
    rw [hb.2.2 t]
    have hi : l.length ≤ i := by
      have := (hm 0).symm
      simpa using this
    cases hp : prodOf l t with
    | none => rfl
    | some j =>
      have := prodOf_lt hp
      simp only [show j < i by omega, this, if_true]
  | o :: m, i, b, hm, hb, h => by
    have ho : l[i]? = some o := by simpa using (hm 0).symm
    have hil : i < l.length := (List.getElem?_eq_some_iff.1 ho).1
    have h1 := h (vs i) (hv i hil)
    refine endAll_go hl hv m (i + 1) (b.put o.dst (vs i)) (fun j => by have := hm (j + 1); simpa [Nat.add_assoc, Nat.add_comm 1 j] using this) ⟨?_, ?_, fun t => ?_⟩ h1
    · rw [← hb.1]; cases o.dst <;> rfl
    · rw [← hb.2.1]; cases o.dst <;> simp [Act.put]
    · have ht := hb.2.2 t
      cases hd : o.dst with
      | none =>
        show b.tmps[t]? = _
        rw [ht]
        cases hp : prodOf l t with
        | none => rfl
        | some j =>
          have hne : j ≠ i := prod_ne ho (by rw [hd]; simp) hp
          simp only []
          by_cases hj : j < i
          · simp only [hj, show j < i + 1 by omega]
          · simp only [hj, show ¬ j < i + 1 by omega]
      | some d =>
        have hpd := hl i o ho d hd
        by_cases hdt : d = t
        · subst hdt
          rw [hpd]
          simp only [show i < i + 1 by omega, if_true]
          show (b.tmps.setIfInBounds d (vs i))[d]? = _
          rw [Array.getElem?_setIfInBounds_self]
          rw [hb.2.1]
        · show (b.tmps.setIfInBounds d (vs i))[t]? = _
          rw [Array.getElem?_setIfInBounds_ne hdt, ht]
          cases hp : prodOf l t with
          | none => rfl
          | some j =>
            have hne : j ≠ i := prod_ne ho (by rw [hd]; simpa using hdt) hp
            simp only []
            by_cases hj : j < i
            · simp only [hj, show j < i + 1 by omega]
            · simp only [hj, show ¬ j < i + 1 by omega]

theorem upTo_ext {l : List Oper} {a b c : Act} {vs : Nat → Value} (hb : UpTo l a vs l.length b) (hc : UpTo l a vs l.length c) : b = c := by
  obtain ⟨t1, d1⟩ := b
  obtain ⟨t2, d2⟩ := c
  have h1 := hb.1
  have h2 := hc.1
  have h3 : t1 = t2 := by
    apply Array.ext_getElem?
    intro i
    rw [hb.2.2 i, hc.2.2 i]
  simp only at h1 h2
  subst h3
  rw [h1, h2]

theorem oper_wp_of_good {M : World → Prop} {T : Ty R} {w : World} {o : Oper} {a : Act} {K : Act → World → Prop} {Q : Exit → Act → World → Prop}
    (h : Good P R M T w ((execOp a.eval o).run P w)) (hK : ∀ v w', R w w' → M w' → T.p v w' → K (a.put o.dst v) w') : o.wp P a w K Q := by
  unfold Oper.wp
  generalize (execOp a.eval o).run P w = r at *
  cases r with
  | ok n w' =>
    cases n <;> simp only [Good] at h <;> simp only [Oper.upon]
    case value u => exact hK _ _ h.1 h.2.1 h.2.2
    case skip => exact hK _ _ h.1 h.2.1 h.2.2
    case enter f args => exact h.mono fun e w'' ⟨v, he, h1, h2, h3⟩ => by subst he; exact hK _ _ h1 h2 h3
  | halt x w' => exact h.elim

theorem wpAny_ever {M : Nat → World → Prop} {l : List Oper} {a : Act} {T : List (Ty R)} {w0 : World} {Q : Exit → Act → World → Prop} (hrefl : ∀ a, R a a) (trans : ∀ a b c, R a b → R b c → R a c)
    (hB : regFit l a.tmps.size 0 l = true) (hops : OpsOk P R M l a T w0 0 l) (hend : ∀ w', R w0 w' → M l.length w' → EndAll T w' (fun a' => Q .normal a' w') 0 l a) :
    ∀ (fuel k : Nat) (listed : Array Bool) (vs : Nat → Value) (a' : Act) (w' : World), fuel + k = l.length → listed.size = l.length → openN l.length listed = fuel → (∀ j, j < l.length → listed.getD j true = true → ∀ o, l[j]? = some o → ∀ e ∈ o.after, Region.binds .any e = true → listed.getD e.on false = true) → Inv M l a T w0 listed vs k a' w' → wpAny P .any l.toArray Q fuel listed a' w' := by
  have hdone : ∀ (k : Nat) (listed : Array Bool) (vs : Nat → Value) (a' : Act) (w' : World), k = l.length → (∀ j, j < l.length → listed.getD j true = true) → Inv M l a T w0 listed vs k a' w' → Q .normal a' w' := by
    intro k listed vs a' w' hk hall hi
    subst hk
    have hu : UpTo l a vs 0 a := ⟨rfl, rfl, fun t => by cases prodOf l t <;> simp⟩
    obtain ⟨b, hq, hb⟩ := endAll_go (T := T) (w' := w') (Q := fun a' => Q .normal a' w') (vs := vs) (l := l) (a := a)
      (fun j o ho d hd => by
        have := regFit_at l 0 hB j o ho
        unfold opFit at this
        simp only [Bool.and_eq_true, hd, Nat.zero_add] at this
        have h2 := this.1.2
        simp at h2
        exact h2.1)
      (fun j hj => hi.f j hj (hall j hj)) l 0 a (fun j => by simp) hu (hend w' hi.r hi.m)
    have hc : UpTo l a vs l.length a' := ⟨hi.d, hi.s, fun t => by
      rw [hi.t t]
      cases hp : prodOf l t with
      | none => rfl
      | some j =>
        have := prodOf_lt hp
        simp only [hall j this, this, if_true]⟩
    rw [upTo_ext hc hb]
    exact hq
  intro fuel
  induction fuel with
  | zero =>
    intro k listed vs a' w' hk hsz ho _ hi
    have hall : ∀ j, j < l.length → listed.getD j true = true := by
      intro j hj
      cases hlj : listed.getD j true with
      | true => rfl
      | false =>
        have := openN_set hj hlj
        omega
    refine ⟨?_, hdone k listed vs a' w' (by omega) hall hi⟩
    rw [List.eq_nil_iff_forall_not_mem]
    intro i hmem
    rw [mem_ready] at hmem
    obtain ⟨h1, o, ho', _⟩ := hmem
    have : i < l.length := by simpa using (Array.getElem?_eq_some_iff.1 ho').1
    rw [hall i this] at h1
    cases h1
  | succ fuel ih =>
    intro k listed vs a' w' hk hsz ho hcl hi
    refine ⟨fun hnil => ?_, fun i hmem => ?_⟩
    · exfalso
      have least : ∀ j, j < l.length → listed.getD j true = false → False := by
        intro j
        induction j using Nat.strongRecOn with
        | ind j ihj =>
          intro hj hlj
          have hol : l[j]? = some l[j] := List.getElem?_eq_getElem hj
          have hfit := regFit_at l 0 hB j _ hol
          rw [Nat.zero_add] at hfit
          unfold opFit at hfit
          simp only [Bool.and_eq_true] at hfit
          have haft := hfit.2
          have : j ∈ Region.ready .any l.toArray listed := by
            rw [mem_ready]
            refine ⟨hlj, l[j], by simp [hol], fun e he hb => ?_⟩
            rw [Array.all_eq_true_iff_forall_mem] at haft
            have h1 := haft e he
            rw [hb] at h1
            simp at h1
            cases h2 : listed.getD e.on true with
            | false => exact (ihj e.on h1 (by omega) h2).elim
            | true =>
              have h3 : e.on < listed.size := by omega
              simp [h3] at h2 ⊢
              exact h2
          rw [hnil] at this
          cases this
      obtain ⟨j, hj, hlj⟩ := openN_pos (n := l.length) (listed := listed) (by omega)
      exact least j hj hlj
    · rw [mem_ready] at hmem
      obtain ⟨h1, o, ho', h2⟩ := hmem
      have hlt : i < l.length := by simpa using (Array.getElem?_eq_some_iff.1 ho').1
      have hol : l[i]? = some o := by simpa using ho'
      have hfit := regFit_at l 0 hB i o hol
      rw [Nat.zero_add] at hfit
      unfold opFit at hfit
      simp only [Bool.and_eq_true] at hfit
      obtain ⟨⟨⟨⟨hg, hs⟩, hopd⟩, hdst⟩, haft⟩ := hfit
      have hok := opsOk_at l 0 hops i o hol
      rw [Nat.zero_add] at hok
      have hfacts : factsOf l a T a'.eval w' o o.op.operands.toList := facts_of_inv hi o _ fun x hx t j hxt hp => by
        subst hxt
        rw [List.all_eq_true] at hopd
        have := hopd _ hx
        simp only [hp, Bool.or_eq_true, beq_iff_eq] at this
        by_cases hdep : depOn o j = true
        case neg =>
          rw [if_neg hdep]
          rcases this with h | h | h
          · exact absurd h hdep
          · rw [h]; exact h1
          · cases hlj : listed.getD j true with
            | false => rfl
            | true =>
              have := reach_listed hcl _ _ _ hlj h (prodOf_lt hp)
              rw [h1] at this; cases this
        rw [if_pos hdep]
        obtain ⟨e, he, hee⟩ := List.any_eq_true.1 hdep
        rw [Array.mem_toList_iff] at he
        simp only [Bool.and_eq_true, beq_iff_eq] at hee
        have h3 := h2 e he hee.2
        rw [hee.1] at h3
        have hj := prodOf_lt hp
        refine ⟨?_, hj, ?_⟩
        · rw [Array.getD_eq_getD_getElem?] at h3 ⊢
          cases hx : listed[j]? with
          | none => rfl
          | some b => rw [hx] at h3; simpa using h3
        · have h4 := hp
          unfold prodOf at h4
          rw [List.findIdx?_eq_some_iff_getElem] at h4
          obtain ⟨_, h5, _⟩ := h4
          have h6 := regFit_at l 0 hB j l[j] (List.getElem?_eq_getElem hj)
          unfold opFit at h6
          simp only [Bool.and_eq_true] at h6
          have h7 := h6.1.2
          have h8 : l[j].dst = some t := by simpa using h5
          rw [h8] at h7
          simp at h7
          exact h7.2
      have hgood := hok k w' a'.eval (by omega) hi.r hi.m hfacts
      have hgo : (Region.wanted o (yielded l.toArray a'.tmps) = true ∧ Good P R (M (k + 1)) (tyAt T i) w' ((execOp a'.eval o).run P w')) ∨ (Region.wanted o (yielded l.toArray a'.tmps) = false ∧ M (k + 1) w' ∧ (tyAt T i).p undef w') := by
        cases hgo : o.guard with
        | none =>
          rw [hgo] at hgood
          exact .inl ⟨by simp [Region.wanted, hgo], hgood⟩
        | some g =>
          obtain ⟨j, b⟩ := g
          rw [hgo] at hgood hg
          simp only [Bool.and_eq_true] at hg
          obtain ⟨hg1, hg2⟩ := hg
          obtain ⟨e, he, hee⟩ := List.any_eq_true.1 hg1
          rw [Array.mem_toList_iff] at he
          simp only [Bool.and_eq_true, beq_iff_eq] at hee
          have h3 := h2 e he hee.2
          rw [hee.1] at h3
          have h3' : listed.getD j true = true := by
            rw [Array.getD_eq_getD_getElem?] at h3 ⊢
            cases hx : listed[j]? with
            | none => rfl
            | some b => rw [hx] at h3; simpa using h3
          cases hlj : l[j]? with
          | none => rw [hlj] at hg2; cases hg2
          | some oj =>
            rw [hlj] at hg2
            simp only [Option.isSome_iff_exists] at hg2
            obtain ⟨d, hd⟩ := hg2
            have hjl : j < l.length := (List.getElem?_eq_some_iff.1 hlj).1
            have hfj := regFit_at l 0 hB j oj hlj
            unfold opFit at hfj
            simp only [Bool.and_eq_true, hd, Nat.zero_add] at hfj
            have h4 := hfj.1.2
            simp at h4
            have h5 := hi.t d
            rw [h4.1] at h5
            simp only [h3', if_true, h4.2] at h5
            have hy : yielded l.toArray a'.tmps j = (match vs j with | .bool b => some b | _ => none) := by
              unfold yielded
              simp only [List.getElem?_toArray, hlj, Option.bind_some, hd, h5]
              cases vs j <;> rfl
            have h6 := hgood (vs j) (hi.f j hjl h3')
            by_cases hv : vs j = .bool b
            · refine .inl ⟨?_, h6.1 hv⟩
              simp [Region.wanted, hgo, hy, hv]
            · refine .inr ⟨?_, h6.2 hv⟩
              simp only [Region.wanted, hgo, hy]
              cases hvj : vs j <;> simp_all
      have hfin : ∀ v w'', R w' w'' → M (k + 1) w'' → (tyAt T i).p v w'' → wpAny P .any l.toArray Q fuel (listed.setIfInBounds i true) (a'.put o.dst v) w'' := by
       intro v w'' hr hm hT
       refine ih (k + 1) _ (fun j => if j = i then v else vs j) _ _ (by omega) (by simpa using hsz) (by have := openN_set hlt h1; omega) ?_ ⟨trans _ _ _ hi.r hr, hm, ?_, ?_, ?_, ?_⟩
       · intro j hj hlj oj hoj e he hb
         by_cases hji : j = i
         · subst hji
           rw [hol] at hoj
           injection hoj with hoj
           subst hoj
           exact getD_set_true (h2 e he hb)
         · rw [getD_set_ne true (Ne.symm hji)] at hlj
           exact getD_set_true (hcl j hj hlj oj hoj e he hb)
       · rw [← hi.d]; cases o.dst <;> rfl
       · rw [← hi.s]; cases o.dst <;> simp [Act.put]
       · intro t
         have ht := hi.t t
         cases hd : o.dst with
         | none =>
           show a'.tmps[t]? = _
           rw [ht]
           cases hp : prodOf l t with
           | none => rfl
           | some j =>
             have hne : j ≠ i := prod_ne hol (by rw [hd]; simp) hp
             simp only [if_neg hne, getD_set_ne true (Ne.symm hne)]
         | some d =>
           rw [hd] at hdst
           simp at hdst
           by_cases hdt : d = t
           · subst hdt
             rw [hdst.1]
             have h3 : (listed.setIfInBounds i true).getD i true = true := by simp [hsz, hlt]
             simp only [h3, if_true, hdst.2]
             show (a'.tmps.setIfInBounds d v)[d]? = _
             rw [Array.getElem?_setIfInBounds_self, hi.s, if_pos hdst.2]
           · show (a'.tmps.setIfInBounds d v)[t]? = _
             rw [Array.getElem?_setIfInBounds_ne hdt, ht]
             cases hp : prodOf l t with
             | none => rfl
             | some j =>
               have hne : j ≠ i := prod_ne hol (by rw [hd]; simpa using hdt) hp
               simp only [if_neg hne, getD_set_ne true (Ne.symm hne)]
       · intro j hj hlj
         by_cases hji : j = i
         · subst hji
           simpa using hT
         · rw [getD_set_ne true (Ne.symm hji)] at hlj
           simp only [if_neg hji]
           exact (tyAt T j).up _ _ _ hr (hi.f j hj hlj)
      unfold wpOp
      simp only [ho']
      rcases hgo with ⟨hw, hgd⟩ | ⟨hw, hm, hT⟩
      · rw [if_pos hw]
        exact .inl (oper_wp_of_good hgd hfin)
      · rw [if_neg (by rw [hw]; simp)]
        exact hfin undef w' (hrefl _) hm hT

/-- the law. -/
theorem wp_region_ever {M : Nat → World → Prop} {l : List Oper} {a : Act} {w : World} {Q : Exit → Act → World → Prop} {id : Nat} (T : List (Ty R)) (hm : P.follows .mixedOrders = true) (hrefl : ∀ a, R a a) (trans : ∀ a b c, R a b → R b c → R a c)
    (hB : regFit l a.tmps.size 0 l = true) (h0 : M 0 w.drew) (hops : OpsOk P R M l a T w.drew 0 l) (hend : ∀ w', R w.drew w' → M l.length w' → EndAll T w' (fun a' => Q .normal a' w') 0 l a) : (Code.region id l.toArray true).wp P Q a w := by
  refine wp_region_any hm ?_
  refine wpAny_ever (M := M) (T := T) (w0 := w.drew) hrefl trans hB hops hend _ 0 _ (fun _ => undef) a _ (by simp) (by simp) (by simp [openN_all]) (fun j hj h => by simp [hj] at h) ⟨hrefl _, h0, rfl, rfl, fun t => ?_, fun j hj h => ?_⟩
  · cases hp : prodOf l t with
    | none => rfl
    | some j =>
      have := prodOf_lt hp
      simp [this]
  · simp [hj] at h

end
end Go.Proofs.YtbjlkdenkmbepaaGreatDoor
