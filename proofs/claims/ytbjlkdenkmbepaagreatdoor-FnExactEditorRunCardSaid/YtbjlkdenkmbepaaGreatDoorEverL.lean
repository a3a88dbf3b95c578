/- What is proved here: What is proved here: a law for regions whose order is drawn: each operation gives a value of which a lasting fact is known, and keeps a running fact on the world. What is proved here: words for the law on drawn regions: worlds that go on, facts on numbers, strings and rows. What is proved here: the law for regions whose order is drawn, with links: beside the lasting fact on its own value an operation may give a lasting fact on the value of another one that it waits for. What is proved here: words for drawn regions that fill one box of five cells. No condition. -/
import Derived.Test.YtbjlkdenkmbepaaGreatDoorBase
import Derived.Orders
import Derived.Test.YtbjlkdenkmbepaaGreatDoorDraw1
import Derived.Laws.IdiomCopy
namespace Go.Proofs.YtbjlkdenkmbepaaGreatDoor
open Go.RowKit

/-- a fact on a value that lasts when the world goes on. -/
structure Ty (R : World → World → Prop) where
  p : Value → World → Prop
  up : ∀ v w w', R w w' → p v w → p v w'

section
variable {P : Program} {R : World → World → Prop}

def tyAny (R : World → World → Prop) : Ty R := ⟨fun _ _ => True, fun _ _ _ _ _ => trivial⟩
def tyAt (T : List (Ty R)) (i : Nat) : Ty R := match T[i]? with | some t => t | none => tyAny R
/-- the operation that writes a slot. -/
def prodOf (l : List Oper) (t : Nat) : Option Nat := l.findIdx? fun o => o.dst == some t
/-- operation o waits for number j. -/
def depOn (o : Oper) (j : Nat) : Bool := o.after.toList.any fun e => e.on == j && Region.binds .any e
/-- number j waits, perhaps through others, for number i. -/
def reach (l : List Oper) : Nat → Nat → Nat → Bool
  | 0, _, _ => false
  | n + 1, j, i => match l[j]? with | some o => o.after.toList.any fun e => Region.binds .any e && (e.on == i || reach l n e.on i) | none => false
def srcOf (l : List Oper) (o : Oper) (t : Nat) : Option Nat := match prodOf l t with | some j => if depOn o j then some j else none | none => none
def factOf (l : List Oper) (a : Act) (T : List (Ty R)) (ρ : Operand → Value) (w : World) (o : Oper) (x : Operand) : Prop :=
  match x with
  | .tmp t => match srcOf l o t with | some j => (tyAt T j).p (ρ (.tmp t)) w | none => ρ (.tmp t) = a.eval (.tmp t)
  | y => ρ y = a.eval y
def factsOf (l : List Oper) (a : Act) (T : List (Ty R)) (ρ : Operand → Value) (w : World) (o : Oper) : List Operand → Prop
  | [] => True
  | x :: xs => factOf l a T ρ w o x ∧ factsOf l a T ρ w o xs
def Good (P : Program) (R : World → World → Prop) (M : World → Prop) (T : Ty R) (w : World) : Result Next → Prop
  | .ok (.value v) w' => R w w' ∧ M w' ∧ T.p v w'
  | .ok .skip w' => R w w' ∧ M w' ∧ T.p undef w'
  | .ok (.enter f args) w' => Calls P f args w' fun e w'' => ∃ v, e = .returned v ∧ R w w'' ∧ M w'' ∧ T.p v w''
  | _ => False
def OpOk (P : Program) (R : World → World → Prop) (M : Nat → World → Prop) (l : List Oper) (a : Act) (T : List (Ty R)) (w0 : World) (i : Nat) (o : Oper) : Prop :=
  ∀ k w ρ, k < l.length → R w0 w → M k w → factsOf l a T ρ w o o.op.operands.toList →
    match o.guard with
    | none => Good P R (M (k + 1)) (tyAt T i) w ((execOp ρ o).run P w)
    | some (j, b) => ∀ u, (tyAt T j).p u w → (u = .bool b → Good P R (M (k + 1)) (tyAt T i) w ((execOp ρ o).run P w)) ∧ (u ≠ .bool b → M (k + 1) w ∧ (tyAt T i).p undef w)
def OpsOk (P : Program) (R : World → World → Prop) (M : Nat → World → Prop) (l : List Oper) (a : Act) (T : List (Ty R)) (w0 : World) : Nat → List Oper → Prop
  | _, [] => True
  | i, o :: rest => OpOk P R M l a T w0 i o ∧ OpsOk P R M l a T w0 (i + 1) rest
def EndAll (T : List (Ty R)) (w : World) (Q : Act → Prop) : Nat → List Oper → Act → Prop
  | _, [], a => Q a
  | i, o :: rest, a => ∀ v, (tyAt T i).p v w → EndAll T w Q (i + 1) rest (a.put o.dst v)

/-- what the law asks of a region's text. -/
def opFit (l : List Oper) (n : Nat) (i : Nat) (o : Oper) : Bool :=
  (match o.guard with | none => true | some (j, _) => depOn o j && (match l[j]? with | some oj => oj.dst.isSome | none => false)) && (match o.op with | .select _ _ => false | _ => true) &&
  (o.op.operands.toList.all fun x => match x with
    | .tmp t => (match prodOf l t with | some j => depOn o j || (j == i || reach l l.length j i) | none => true)
    | _ => true) &&
  (match o.dst with | some d => prodOf l d == some i && decide (d < n) | none => true) &&
  o.after.all (fun e => !Region.binds .any e || decide (e.on < i))
def regFit (l : List Oper) (n : Nat) : Nat → List Oper → Bool
  | _, [] => true
  | i, o :: rest => opFit l n i o && regFit l n (i + 1) rest

theorem regFit_at {l : List Oper} {n : Nat} : ∀ (m : List Oper) (i : Nat), regFit l n i m = true → ∀ j o, m[j]? = some o → opFit l n (i + j) o = true
  | [], _, _, j, o, h => by simp at h
  | x :: m, i, h, 0, o, ho => by
    simp at ho; subst ho
    simp only [regFit, Bool.and_eq_true] at h
    exact h.1
  | x :: m, i, h, j + 1, o, ho => by
    simp only [regFit, Bool.and_eq_true] at h
    have := regFit_at m (i + 1) h.2 j o (by simpa using ho)
    rwa [Nat.add_assoc, Nat.add_comm 1 j] at this
theorem opsOk_at {M : Nat → World → Prop} {l : List Oper} {a : Act} {T : List (Ty R)} {w0 : World} : ∀ (m : List Oper) (i : Nat), OpsOk P R M l a T w0 i m → ∀ j o, m[j]? = some o → OpOk P R M l a T w0 (i + j) o
  | [], _, _, j, o, h => by simp at h
  | x :: m, i, h, 0, o, ho => by
    simp at ho; subst ho
    exact h.1
  | x :: m, i, h, j + 1, o, ho => by
    have := opsOk_at m (i + 1) h.2 j o (by simpa using ho)
    rwa [Nat.add_assoc, Nat.add_comm 1 j] at this

/-- the operations that are still to come. -/
def openN (n : Nat) (listed : Array Bool) : Nat := ((List.range n).filter fun i => !listed.getD i true).length

theorem openN_set {n : Nat} {listed : Array Bool} {i : Nat} (hi : i < n) (h : listed.getD i true = false) : openN n (listed.setIfInBounds i true) + 1 = openN n listed := by
  have hlt : i < listed.size := by
    rcases Nat.lt_or_ge i listed.size with h' | h'
    · exact h'
    · simp [Array.getElem?_eq_none h'] at h
  have key : ∀ (xs : List Nat), xs.Nodup → (xs.filter fun j => !(listed.setIfInBounds i true).getD j true).length + (if i ∈ xs then 1 else 0) = (xs.filter fun j => !listed.getD j true).length := by
    intro xs
    induction xs with
    | nil => intro _; simp
    | cons x xs ih =>
      intro hnd
      rw [List.nodup_cons] at hnd
      have := ih hnd.2
      by_cases hx : x = i
      · subst hx
        have h1 : (listed.setIfInBounds x true).getD x true = true := by simp [hlt]
        rw [List.filter_cons, List.filter_cons, h1, h]
        rw [if_neg hnd.1] at this
        simp only [List.mem_cons_self, if_true, Bool.not_true, Bool.not_false, List.length_cons, Bool.false_eq_true, if_false]
        omega
      · have h1 : (listed.setIfInBounds i true).getD x true = listed.getD x true := getD_set_ne true (Ne.symm hx)
        rw [List.filter_cons, List.filter_cons, h1]
        have hm : (i ∈ x :: xs) = (i ∈ xs) := by simp [Ne.symm hx]
        simp only [hm]
        cases listed.getD x true
        · simp only [Bool.not_false, if_true, List.length_cons]; omega
        · simp only [Bool.not_true, Bool.false_eq_true, if_false]; exact this
  have := key (List.range n) List.nodup_range
  rw [if_pos (List.mem_range.2 hi)] at this
  exact this
theorem openN_pos {n : Nat} {listed : Array Bool} (h : 0 < openN n listed) : ∃ j, j < n ∧ listed.getD j true = false := by
  unfold openN at h
  obtain ⟨j, hj⟩ := List.exists_mem_of_length_pos h
  rw [List.mem_filter, List.mem_range] at hj
  exact ⟨j, hj.1, by simpa using hj.2⟩
theorem openN_all (n : Nat) : openN n (Array.replicate n false) = n := by
  unfold openN
  rw [List.filter_eq_self.2]
  · simp
  · intro i hi
    rw [List.mem_range] at hi
    simp [hi]
theorem prod_ne {l : List Oper} {i j t : Nat} {o : Oper} (ho : l[i]? = some o) (hd : o.dst ≠ some t) (hp : l.findIdx? (fun o => o.dst == some t) = some j) : j ≠ i := by
  intro e
  subst e
  rw [List.findIdx?_eq_some_iff_getElem] at hp
  obtain ⟨h1, h2, _⟩ := hp
  rw [List.getElem?_eq_getElem h1] at ho
  injection ho with ho
  rw [ho] at h2
  exact hd (by simpa using h2)

structure Inv (M : Nat → World → Prop) (l : List Oper) (a : Act) (T : List (Ty R)) (w0 : World) (listed : Array Bool) (vs : Nat → Value) (k : Nat) (a' : Act) (w' : World) : Prop where
  r : R w0 w'
  m : M k w'
  d : a'.defers = a.defers
  s : a'.tmps.size = a.tmps.size
  t : ∀ t, a'.tmps[t]? = (match prodOf l t with | some j => if listed.getD j true = true then (if t < a.tmps.size then some (vs j) else none) else a.tmps[t]? | none => a.tmps[t]?)
  f : ∀ j, j < l.length → listed.getD j true = true → (tyAt T j).p (vs j) w'

theorem facts_of_inv {M : Nat → World → Prop} {l : List Oper} {a a' : Act} {T : List (Ty R)} {w0 w' : World} {listed : Array Bool} {vs : Nat → Value} {k : Nat} (h : Inv M l a T w0 listed vs k a' w') (o : Oper)
    (xs : List Operand) (hx : ∀ x ∈ xs, ∀ t j, x = .tmp t → prodOf l t = some j → if depOn o j = true then (listed.getD j true = true ∧ j < l.length ∧ t < a.tmps.size) else listed.getD j true = false) : factsOf l a T a'.eval w' o xs := by
  induction xs with
  | nil => trivial
  | cons x xs ih =>
    refine ⟨?_, ih fun y hy => hx y (List.mem_cons_of_mem _ hy)⟩
    unfold factOf
    cases x with
    | tmp t =>
      simp only []
      have ht := h.t t
      unfold srcOf
      cases hp : prodOf l t with
      | none =>
        rw [hp] at ht
        simp only at ht ⊢
        show a'.tmps.getD t undef = a.tmps.getD t undef
        rw [Array.getD_eq_getD_getElem?, Array.getD_eq_getD_getElem?, ht]
      | some j =>
        rw [hp] at ht
        have hxx := hx (.tmp t) (List.mem_cons_self ..) t j rfl hp
        dsimp only
        cases hdep : depOn o j with
        | false =>
          rw [hdep] at hxx
          simp only [Bool.false_eq_true, if_false] at hxx
          simp only [hxx, Bool.false_eq_true, if_false] at ht ⊢
          show a'.tmps.getD t undef = a.tmps.getD t undef
          rw [Array.getD_eq_getD_getElem?, Array.getD_eq_getD_getElem?, ht]
        | true =>
        rw [hdep] at hxx
        simp only [if_true] at hxx
        obtain ⟨h1, h2, h3⟩ := hxx
        simp only [h1, if_true, h3] at ht
        simp only [if_true]
        show (tyAt T j).p (a'.eval (.tmp t)) w'
        have : a'.eval (.tmp t) = vs j := by
          show a'.tmps.getD t undef = _
          rw [Array.getD_eq_getD_getElem?, ht]; rfl
        rw [this]
        exact h.f j h2 h1
    | _ => rfl

theorem reach_listed {l : List Oper} {listed : Array Bool} (hcl : ∀ j, j < l.length → listed.getD j true = true → ∀ o, l[j]? = some o → ∀ e ∈ o.after, Region.binds .any e = true → listed.getD e.on false = true) :
    ∀ (n j i : Nat), listed.getD j true = true → reach l n j i = true → j < l.length → listed.getD i true = true
  | 0, _, _, _, h, _ => by cases h
  | n + 1, j, i, hj, h, hjl => by
    unfold reach at h
    rw [List.getElem?_eq_getElem hjl] at h
    simp only at h
    obtain ⟨e, he, hee⟩ := List.any_eq_true.1 h
    rw [Array.mem_toList_iff] at he
    simp only [Bool.and_eq_true, Bool.or_eq_true, beq_iff_eq] at hee
    have h1 := hcl j hjl hj _ (List.getElem?_eq_getElem hjl) e he hee.1
    have h2 : listed.getD e.on true = true := by
      rw [Array.getD_eq_getD_getElem?] at h1 ⊢
      cases hx : listed[e.on]? with
      | none => rfl
      | some b => rw [hx] at h1; simpa using h1
    rcases hee.2 with h3 | h3
    · rw [← h3]; exact h2
    · by_cases hel : e.on < l.length
      · exact reach_listed hcl n e.on i h2 h3 hel
      · cases n with
        | zero => cases h3
        | succ n =>
          unfold reach at h3
          rw [List.getElem?_eq_none (by omega)] at h3
          cases h3

theorem prodOf_lt {l : List Oper} {t j : Nat} (h : prodOf l t = some j) : j < l.length := by
  unfold prodOf at h
  rw [List.findIdx?_eq_some_iff_getElem] at h
  exact h.1

/-- the frame in which the first i operations have put their values. -/
def UpTo (l : List Oper) (a : Act) (vs : Nat → Value) (i : Nat) (b : Act) : Prop :=
  b.defers = a.defers ∧ b.tmps.size = a.tmps.size ∧ ∀ t, b.tmps[t]? = (match prodOf l t with | some j => if j < i then (if t < a.tmps.size then some (vs j) else none) else a.tmps[t]? | none => a.tmps[t]?)

theorem endAll_go {l : List Oper} {a : Act} {T : List (Ty R)} {w' : World} {Q : Act → Prop} {vs : Nat → Value} (hl : ∀ j o, l[j]? = some o → ∀ d, o.dst = some d → prodOf l d = some j) (hv : ∀ j, j < l.length → (tyAt T j).p (vs j) w') :
    ∀ (m : List Oper) (i : Nat) (b : Act), (∀ j, m[j]? = l[i + j]?) → UpTo l a vs i b → EndAll T w' Q i m b → ∃ a', Q a' ∧ UpTo l a vs l.length a'
  | [], i, b, hm, hb, h => by
    refine ⟨b, h, hb.1, hb.2.1, fun t => ?_⟩
    rw [hb.2.2 t]
    have hi : l.length ≤ i := by
      have := (hm 0).symm
      simpa using this
    cases hp : prodOf l t with
    | none => rfl
    | some j =>
      have := prodOf_lt hp
      simp only [show j < i by omega, this, if_true]
  | o :: m, i, b, hm, hb, h => by
    have ho : l[i]? = some o := by simpa using (hm 0).symm
    have hil : i < l.length := (List.getElem?_eq_some_iff.1 ho).1
    have h1 := h (vs i) (hv i hil)
    refine endAll_go hl hv m (i + 1) (b.put o.dst (vs i)) (fun j => by have := hm (j + 1); simpa [Nat.add_assoc, Nat.add_comm 1 j] using this) ⟨?_, ?_, fun t => ?_⟩ h1
    · rw [← hb.1]; cases o.dst <;> rfl
    · rw [← hb.2.1]; cases o.dst <;> simp [Act.put]
    · have ht := hb.2.2 t
      cases hd : o.dst with
      | none =>
        show b.tmps[t]? = _
        rw [ht]
        cases hp : prodOf l t with
        | none => rfl
        | some j =>
          have hne : j ≠ i := prod_ne ho (by rw [hd]; simp) hp
          simp only []
          by_cases hj : j < i
          · simp only [hj, show j < i + 1 by omega]
          · simp only [hj, show ¬ j < i + 1 by omega]
      | some d =>
        have hpd := hl i o ho d hd
        by_cases hdt : d = t
        · subst hdt
          rw [hpd]
          simp only [show i < i + 1 by omega, if_true]
          show (b.tmps.setIfInBounds d (vs i))[d]? = _
          rw [Array.getElem?_setIfInBounds_self]
          rw [hb.2.1]
        · show (b.tmps.setIfInBounds d (vs i))[t]? = _
          rw [Array.getElem?_setIfInBounds_ne hdt, ht]
          cases hp : prodOf l t with
          | none => rfl
          | some j =>
            have hne : j ≠ i := prod_ne ho (by rw [hd]; simpa using hdt) hp
            simp only []
            by_cases hj : j < i
            · simp only [hj, show j < i + 1 by omega]
            · simp only [hj, show ¬ j < i + 1 by omega]

theorem upTo_ext {l : List Oper} {a b c : Act} {vs : Nat → Value} (hb : UpTo l a vs l.length b) (hc : UpTo l a vs l.length c) : b = c := by
  obtain ⟨t1, d1⟩ := b
  obtain ⟨t2, d2⟩ := c
  have h1 := hb.1
  have h2 := hc.1
  have h3 : t1 = t2 := by
    apply Array.ext_getElem?
    intro i
    rw [hb.2.2 i, hc.2.2 i]
  simp only at h1 h2
  subst h3
  rw [h1, h2]

theorem oper_wp_of_good {M : World → Prop} {T : Ty R} {w : World} {o : Oper} {a : Act} {K : Act → World → Prop} {Q : Exit → Act → World → Prop}
    (h : Good P R M T w ((execOp a.eval o).run P w)) (hK : ∀ v w', R w w' → M w' → T.p v w' → K (a.put o.dst v) w') : o.wp P a w K Q := by
  unfold Oper.wp
  generalize (execOp a.eval o).run P w = r at *
  cases r with
  | ok n w' =>
    cases n <;> simp only [Good] at h <;> simp only [Oper.upon]
    case value u => exact hK _ _ h.1 h.2.1 h.2.2
    case skip => exact hK _ _ h.1 h.2.1 h.2.2
    case enter f args => exact h.mono fun e w'' ⟨v, he, h1, h2, h3⟩ => by subst he; exact hK _ _ h1 h2 h3
  | halt x w' => exact h.elim

theorem wpAny_ever {M : Nat → World → Prop} {l : List Oper} {a : Act} {T : List (Ty R)} {w0 : World} {Q : Exit → Act → World → Prop} (hrefl : ∀ a, R a a) (trans : ∀ a b c, R a b → R b c → R a c)
    (hB : regFit l a.tmps.size 0 l = true) (hops : OpsOk P R M l a T w0 0 l) (hend : ∀ w', R w0 w' → M l.length w' → EndAll T w' (fun a' => Q .normal a' w') 0 l a) :
    ∀ (fuel k : Nat) (listed : Array Bool) (vs : Nat → Value) (a' : Act) (w' : World), fuel + k = l.length → listed.size = l.length → openN l.length listed = fuel → (∀ j, j < l.length → listed.getD j true = true → ∀ o, l[j]? = some o → ∀ e ∈ o.after, Region.binds .any e = true → listed.getD e.on false = true) → Inv M l a T w0 listed vs k a' w' → wpAny P .any l.toArray Q fuel listed a' w' := by
  have hdone : ∀ (k : Nat) (listed : Array Bool) (vs : Nat → Value) (a' : Act) (w' : World), k = l.length → (∀ j, j < l.length → listed.getD j true = true) → Inv M l a T w0 listed vs k a' w' → Q .normal a' w' := by
    intro k listed vs a' w' hk hall hi
    subst hk
    have hu : UpTo l a vs 0 a := ⟨rfl, rfl, fun t => by cases prodOf l t <;> simp⟩
    obtain ⟨b, hq, hb⟩ := endAll_go (T := T) (w' := w') (Q := fun a' => Q .normal a' w') (vs := vs) (l := l) (a := a)
      (fun j o ho d hd => by
        have := regFit_at l 0 hB j o ho
        unfold opFit at this
        simp only [Bool.and_eq_true, hd, Nat.zero_add] at this
        have h2 := this.1.2
        simp at h2
        exact h2.1)
      (fun j hj => hi.f j hj (hall j hj)) l 0 a (fun j => by simp) hu (hend w' hi.r hi.m)
    have hc : UpTo l a vs l.length a' := ⟨hi.d, hi.s, fun t => by
      rw [hi.t t]
      cases hp : prodOf l t with
      | none => rfl
      | some j =>
        have := prodOf_lt hp
        simp only [hall j this, this, if_true]⟩
    rw [upTo_ext hc hb]
    exact hq
  intro fuel
  induction fuel with
  | zero =>
    intro k listed vs a' w' hk hsz ho _ hi
    have hall : ∀ j, j < l.length → listed.getD j true = true := by
      intro j hj
      cases hlj : listed.getD j true with
      | true => rfl
      | false =>
        have := openN_set hj hlj
        omega
    refine ⟨?_, hdone k listed vs a' w' (by omega) hall hi⟩
    rw [List.eq_nil_iff_forall_not_mem]
    intro i hmem
    rw [mem_ready] at hmem
    obtain ⟨h1, o, ho', _⟩ := hmem
    have : i < l.length := by simpa using (Array.getElem?_eq_some_iff.1 ho').1
    rw [hall i this] at h1
    cases h1
  | succ fuel ih =>
    intro k listed vs a' w' hk hsz ho hcl hi
    refine ⟨fun hnil => ?_, fun i hmem => ?_⟩
    · exfalso
      have least : ∀ j, j < l.length → listed.getD j true = false → False := by
        intro j
        induction j using Nat.strongRecOn with
        | ind j ihj =>
          intro hj hlj
          have hol : l[j]? = some l[j] := List.getElem?_eq_getElem hj
          have hfit := regFit_at l 0 hB j _ hol
          rw [Nat.zero_add] at hfit
          unfold opFit at hfit
          simp only [Bool.and_eq_true] at hfit
          have haft := hfit.2
          have : j ∈ Region.ready .any l.toArray listed := by
            rw [mem_ready]
            refine ⟨hlj, l[j], by simp [hol], fun e he hb => ?_⟩
            rw [Array.all_eq_true_iff_forall_mem] at haft
            have h1 := haft e he
            rw [hb] at h1
            simp at h1
            cases h2 : listed.getD e.on true with
            | false => exact (ihj e.on h1 (by omega) h2).elim
            | true =>
              have h3 : e.on < listed.size := by omega
              simp [h3] at h2 ⊢
              exact h2
          rw [hnil] at this
          cases this
      obtain ⟨j, hj, hlj⟩ := openN_pos (n := l.length) (listed := listed) (by omega)
      exact least j hj hlj
    · rw [mem_ready] at hmem
      obtain ⟨h1, o, ho', h2⟩ := hmem
      have hlt : i < l.length := by simpa using (Array.getElem?_eq_some_iff.1 ho').1
      have hol : l[i]? = some o := by simpa using ho'
      have hfit := regFit_at l 0 hB i o hol
      rw [Nat.zero_add] at hfit
      unfold opFit at hfit
      simp only [Bool.and_eq_true] at hfit
      obtain ⟨⟨⟨⟨hg, hs⟩, hopd⟩, hdst⟩, haft⟩ := hfit
      have hok := opsOk_at l 0 hops i o hol
      rw [Nat.zero_add] at hok
      have hfacts : factsOf l a T a'.eval w' o o.op.operands.toList := facts_of_inv hi o _ fun x hx t j hxt hp => by
        subst hxt
        rw [List.all_eq_true] at hopd
        have := hopd _ hx
        simp only [hp, Bool.or_eq_true, beq_iff_eq] at this
        by_cases hdep : depOn o j = true
        case neg =>
          rw [if_neg hdep]
          rcases this with h | h | h
          · exact absurd h hdep
          · rw [h]; exact h1
          · cases hlj : listed.getD j true with
            | false => rfl
            | true =>
              have := reach_listed hcl _ _ _ hlj h (prodOf_lt hp)
              rw [h1] at this; cases this
        rw [if_pos hdep]
        obtain ⟨e, he, hee⟩ := List.any_eq_true.1 hdep
        rw [Array.mem_toList_iff] at he
        simp only [Bool.and_eq_true, beq_iff_eq] at hee
        have h3 := h2 e he hee.2
        rw [hee.1] at h3
        have hj := prodOf_lt hp
        refine ⟨?_, hj, ?_⟩
        · rw [Array.getD_eq_getD_getElem?] at h3 ⊢
          cases hx : listed[j]? with
          | none => rfl
          | some b => rw [hx] at h3; simpa using h3
        · have h4 := hp
          unfold prodOf at h4
          rw [List.findIdx?_eq_some_iff_getElem] at h4
          obtain ⟨_, h5, _⟩ := h4
          have h6 := regFit_at l 0 hB j l[j] (List.getElem?_eq_getElem hj)
          unfold opFit at h6
          simp only [Bool.and_eq_true] at h6
          have h7 := h6.1.2
          have h8 : l[j].dst = some t := by simpa using h5
          rw [h8] at h7
          simp at h7
          exact h7.2
      have hgood := hok k w' a'.eval (by omega) hi.r hi.m hfacts
      have hgo : (Region.wanted o (yielded l.toArray a'.tmps) = true ∧ Good P R (M (k + 1)) (tyAt T i) w' ((execOp a'.eval o).run P w')) ∨ (Region.wanted o (yielded l.toArray a'.tmps) = false ∧ M (k + 1) w' ∧ (tyAt T i).p undef w') := by
        cases hgo : o.guard with
        | none =>
          rw [hgo] at hgood
          exact .inl ⟨by simp [Region.wanted, hgo], hgood⟩
        | some g =>
          obtain ⟨j, b⟩ := g
          rw [hgo] at hgood hg
          simp only [Bool.and_eq_true] at hg
          obtain ⟨hg1, hg2⟩ := hg
          obtain ⟨e, he, hee⟩ := List.any_eq_true.1 hg1
          rw [Array.mem_toList_iff] at he
          simp only [Bool.and_eq_true, beq_iff_eq] at hee
          have h3 := h2 e he hee.2
          rw [hee.1] at h3
          have h3' : listed.getD j true = true := by
            rw [Array.getD_eq_getD_getElem?] at h3 ⊢
            cases hx : listed[j]? with
            | none => rfl
            | some b => rw [hx] at h3; simpa using h3
          cases hlj : l[j]? with
          | none => rw [hlj] at hg2; cases hg2
          | some oj =>
            rw [hlj] at hg2
            simp only [Option.isSome_iff_exists] at hg2
            obtain ⟨d, hd⟩ := hg2
            have hjl : j < l.length := (List.getElem?_eq_some_iff.1 hlj).1
            have hfj := regFit_at l 0 hB j oj hlj
            unfold opFit at hfj
            simp only [Bool.and_eq_true, hd, Nat.zero_add] at hfj
            have h4 := hfj.1.2
            simp at h4
            have h5 := hi.t d
            rw [h4.1] at h5
            simp only [h3', if_true, h4.2] at h5
            have hy : yielded l.toArray a'.tmps j = (match vs j with | .bool b => some b | _ => none) := by
              unfold yielded
              simp only [List.getElem?_toArray, hlj, Option.bind_some, hd, h5]
              cases vs j <;> rfl
            have h6 := hgood (vs j) (hi.f j hjl h3')
            by_cases hv : vs j = .bool b
            · refine .inl ⟨?_, h6.1 hv⟩
              simp [Region.wanted, hgo, hy, hv]
            · refine .inr ⟨?_, h6.2 hv⟩
              simp only [Region.wanted, hgo, hy]
              cases hvj : vs j <;> simp_all
      have hfin : ∀ v w'', R w' w'' → M (k + 1) w'' → (tyAt T i).p v w'' → wpAny P .any l.toArray Q fuel (listed.setIfInBounds i true) (a'.put o.dst v) w'' := by
       intro v w'' hr hm hT
       refine ih (k + 1) _ (fun j => if j = i then v else vs j) _ _ (by omega) (by simpa using hsz) (by have := openN_set hlt h1; omega) ?_ ⟨trans _ _ _ hi.r hr, hm, ?_, ?_, ?_, ?_⟩
       · intro j hj hlj oj hoj e he hb
         by_cases hji : j = i
         · subst hji
           rw [hol] at hoj
           injection hoj with hoj
           subst hoj
           exact getD_set_true (h2 e he hb)
         · rw [getD_set_ne true (Ne.symm hji)] at hlj
           exact getD_set_true (hcl j hj hlj oj hoj e he hb)
       · rw [← hi.d]; cases o.dst <;> rfl
       · rw [← hi.s]; cases o.dst <;> simp [Act.put]
       · intro t
         have ht := hi.t t
         cases hd : o.dst with
         | none =>
           show a'.tmps[t]? = _
           rw [ht]
           cases hp : prodOf l t with
           | none => rfl
           | some j =>
             have hne : j ≠ i := prod_ne hol (by rw [hd]; simp) hp
             simp only [if_neg hne, getD_set_ne true (Ne.symm hne)]
         | some d =>
           rw [hd] at hdst
           simp at hdst
           by_cases hdt : d = t
           · subst hdt
             rw [hdst.1]
             have h3 : (listed.setIfInBounds i true).getD i true = true := by simp [hsz, hlt]
             simp only [h3, if_true, hdst.2]
             show (a'.tmps.setIfInBounds d v)[d]? = _
             rw [Array.getElem?_setIfInBounds_self, hi.s, if_pos hdst.2]
           · show (a'.tmps.setIfInBounds d v)[t]? = _
             rw [Array.getElem?_setIfInBounds_ne hdt, ht]
             cases hp : prodOf l t with
             | none => rfl
             | some j =>
               have hne : j ≠ i := prod_ne hol (by rw [hd]; simpa using hdt) hp
               simp only [if_neg hne, getD_set_ne true (Ne.symm hne)]
       · intro j hj hlj
         by_cases hji : j = i
         · subst hji
           simpa using hT
         · rw [getD_set_ne true (Ne.symm hji)] at hlj
           simp only [if_neg hji]
           exact (tyAt T j).up _ _ _ hr (hi.f j hj hlj)
      unfold wpOp
      simp only [ho']
      rcases hgo with ⟨hw, hgd⟩ | ⟨hw, hm, hT⟩
      · rw [if_pos hw]
        exact .inl (oper_wp_of_good hgd hfin)
      · rw [if_neg (by rw [hw]; simp)]
        exact hfin undef w' (hrefl _) hm hT

/-- the law. -/
theorem wp_region_ever {M : Nat → World → Prop} {l : List Oper} {a : Act} {w : World} {Q : Exit → Act → World → Prop} {id : Nat} (T : List (Ty R)) (hm : P.follows .mixedOrders = true) (hrefl : ∀ a, R a a) (trans : ∀ a b c, R a b → R b c → R a c)
    (hB : regFit l a.tmps.size 0 l = true) (h0 : M 0 w.drew) (hops : OpsOk P R M l a T w.drew 0 l) (hend : ∀ w', R w.drew w' → M l.length w' → EndAll T w' (fun a' => Q .normal a' w') 0 l a) : (Code.region id l.toArray true).wp P Q a w := by
  refine wp_region_any hm ?_
  refine wpAny_ever (M := M) (T := T) (w0 := w.drew) hrefl trans hB hops hend _ 0 _ (fun _ => undef) a _ (by simp) (by simp) (by simp [openN_all]) (fun j hj h => by simp [hj] at h) ⟨hrefl _, h0, rfl, rfl, fun t => ?_, fun j hj h => ?_⟩
  · cases hp : prodOf l t with
    | none => rfl
    | some j =>
      have := prodOf_lt hp
      simp [this]
  · simp [hj] at h

end
end Go.Proofs.YtbjlkdenkmbepaaGreatDoor

namespace Go.Proofs.YtbjlkdenkmbepaaGreatDoor
open Go.RowKit

/-- the world goes on: old blocks but those of L are as they were. -/
structure RS (L : List Nat) (w w' : World) : Prop where
  os : w'.os = w.os
  tape : w'.tape = w.tape
  output : w'.output = w.output
  size : w.heap.size ≤ w'.heap.size
  block : ∀ i, i < w.heap.size → i ∉ L → w'.heap[i]? = w.heap[i]?

section
variable {L : List Nat} {a b c : World} {P : Program} {M : World → Prop} {w w' : World} {v : Value}
theorem RS.refl (L : List Nat) (a : World) : RS L a a := ⟨rfl, rfl, rfl, Nat.le_refl _, fun _ _ _ => rfl⟩
theorem RS.trans (h : RS L a b) (k : RS L b c) : RS L a c := ⟨k.os.trans h.os, k.tape.trans h.tape, k.output.trans h.output, Nat.le_trans h.size k.size, fun i hi hn => (k.block i (Nat.lt_of_lt_of_le hi h.size) hn).trans (h.block i hi hn)⟩
theorem RS.alloc (h : RS L a b) (o : Obj) : RS L a (b.alloc o) := h.trans (by
  have := World.grownBy_alloc b o none
  exact ⟨this.os, this.tape, this.output, this.size, fun i hi _ => this.block i hi (by simp)⟩)
theorem RS.drew (h : RS L a b) : RS L a b.drew := ⟨h.os, h.tape, h.output, h.size, h.block⟩
theorem RS.of_drew (h : RS L a.drew b) : RS L a b := ⟨h.os, h.tape, h.output, h.size, h.block⟩
theorem RS.set (h : RS L a b) (p : Addr) (u : Value) (hp : p.block ∈ L) : RS L a (b.setCell p u) := h.trans
  ⟨rfl, rfl, rfl, by simp [World.setCell], fun i _ hn => Below.heap_setCell b p u i (fun e => hn (e ▸ hp))⟩
theorem RS.grown {row : Option Nat} (h : RS L a b) (k : b.grownBy c row) (hr : ∀ g, row = some g → g ∈ L ∨ a.heap.size ≤ g) : RS L a c :=
  ⟨k.os.trans h.os, k.tape.trans h.tape, k.output.trans h.output, Nat.le_trans h.size k.size, fun i hi hn => (k.block i (Nat.lt_of_lt_of_le hi h.size) (fun e => by rcases hr i e.symm with h | h; exact hn h; omega)).trans (h.block i hi hn)⟩
theorem RS.below (h : RS L a b) (k : Below b.heap.size b c) : RS L a c :=
  h.trans ⟨k.os, k.tape, k.output, k.size, fun i hi _ => k.block i hi⟩
theorem RS.cell (h : RS L a b) {x : Nat} (hx : x < a.heap.size) (hn : x ∉ L) (o : Nat) : b.cell? ⟨x, o, none⟩ = a.cell? ⟨x, o, none⟩ := World.cell?_of_block (a := ⟨x, o, none⟩) (h.block x hx hn)

theorem RS.to_below (h : RS [] a b) : Below a.heap.size a b := ⟨h.os, h.tape, h.output, h.size, fun i hi => h.block i hi (by simp)⟩
theorem row_new (w : World) (t : TypeId) (xs : List Value) (e : Value → Prop) (h : ∀ x ∈ xs, e x) : ∀ j, j < xs.length → ∃ u, (w.alloc (.cells xs.toArray t)).cell? ⟨w.heap.size, j, none⟩ = some u ∧ e u := fun j hj => by
  refine ⟨xs[j], ?_, h _ (List.getElem_mem _)⟩
  rw [World.cell?_alloc_new]
  simp [hj]
def isI (lo hi : Int) (u : Value) : Prop := ∃ x : Int, u = .int .i64 x ∧ lo ≤ x ∧ x ≤ hi
def isS (n : Nat) (u : Value) : Prop := ∃ l : List UInt8, u = S l ∧ l.length ≤ n
def tOf (L : List Nat) (e : Value → Prop) : Ty (RS L) := ⟨fun v _ => e v, fun _ _ _ _ h => h⟩
def tEq (L : List Nat) (u : Value) : Ty (RS L) := ⟨fun v _ => v = u, fun _ _ _ _ h => h⟩
/-- a row of n elements of one cell each, made within the region. -/
def tRow (L : List Nat) (e : Value → Prop) (n : Nat) : Ty (RS L) := ⟨fun v w => ∃ b, v = .slice (some ⟨b, 0, none⟩) n n ∧ b ∉ L ∧ b < w.heap.size ∧ ∀ j, j < n → ∃ u, w.cell? ⟨b, j, none⟩ = some u ∧ e u, by
  rintro v w w' hR ⟨b, rfl, h1, h2, h3⟩
  exact ⟨b, rfl, h1, Nat.lt_of_lt_of_le h2 hR.size, fun j hj => by obtain ⟨u, hu, he⟩ := h3 j hj; exact ⟨u, (hR.cell h2 h1 j).trans hu, he⟩⟩⟩
def tPtr (L : List Nat) (e : Value → Prop) : Ty (RS L) := ⟨fun v w => ∃ b o, v = .pointer (some ⟨b, o, none⟩) ∧ b ∉ L ∧ b < w.heap.size ∧ ∃ u, w.cell? ⟨b, o, none⟩ = some u ∧ e u, by
  rintro v w w' hR ⟨b, o, rfl, h1, h2, u, h3, h4⟩
  exact ⟨b, o, rfl, h1, Nat.lt_of_lt_of_le h2 hR.size, u, (hR.cell h2 h1 o).trans h3, h4⟩⟩

variable {R : World → World → Prop} {T : Ty R}
/-- what is asked, behind a variable. -/
def GoodK (P : Program) (K : Value → World → Prop) : Result Next → Prop
  | .ok (.value v) w' => K v w'
  | .ok .skip w' => K undef w'
  | .ok (.enter f args) w' => Calls P f args w' fun e w'' => ∃ v, e = .returned v ∧ K v w''
  | _ => False
@[go_sem] theorem good_value {K : Value → World → Prop} : GoodK P K (.ok (.value v) w') = K v w' := rfl
@[go_sem] theorem good_skip {K : Value → World → Prop} : GoodK P K (.ok .skip w') = K undef w' := rfl
@[go_sem] theorem good_enter {K : Value → World → Prop} (f : FuncId) (args : Array Value) : GoodK P K (.ok (.enter f args) w') = Calls P f args w' (fun e w'' => ∃ v, e = .returned v ∧ K v w'') := rfl
theorem good_of {r : Result Next} (h : ∀ K : Value → World → Prop, (∀ v w'', R w w'' → M w'' → T.p v w'' → K v w'') → GoodK P K r) : Good P R M T w r := by
  have := h (fun v w'' => R w w'' ∧ M w'' ∧ T.p v w'') (fun v w'' h1 h2 h3 => ⟨h1, h2, h3⟩)
  cases r with
  | ok n w' => cases n <;> exact this
  | halt x w' => exact this

end
theorem Rdr.alloc {w : World} {g n p : Nat} {zs : List Int} (h : Rdr w g n zs p) (o : Obj) : Rdr (w.alloc o) g n zs p := h.up (up_alloc (Below.refl _ _) o)
/-- the running fact of a drawing region: the reader has moved C steps an operation at most. -/
def MR (g n : Nat) (zs : List Int) (p C k : Nat) (w : World) : Prop := ∃ q, q ≤ p + C * k ∧ Rdr w g n zs q
theorem MR.next {g n : Nat} {zs : List Int} {p C k : Nat} {w : World} (h : MR g n zs p C k w) : MR g n zs p C (k + 1) w := by
  obtain ⟨q, hq, h⟩ := h
  exact ⟨q, by rw [Nat.mul_add]; omega, h⟩
theorem MR.alloc {g n : Nat} {zs : List Int} {p C k : Nat} {w : World} (h : MR g n zs p C k w) (o : Obj) : MR g n zs p C k (w.alloc o) := by
  obtain ⟨q, hq, h⟩ := h
  exact ⟨q, hq, h.up (up_alloc (Below.refl _ _) o)⟩
theorem MR.drew {g n : Nat} {zs : List Int} {p C k : Nat} {w : World} (h : MR g n zs p C k w) : MR g n zs p C k w.drew := by
  obtain ⟨q, hq, h⟩ := h
  exact ⟨q, hq, h.up ⟨rfl, rfl, rfl, Nat.le_refl _, fun _ _ => rfl⟩⟩

end Go.Proofs.YtbjlkdenkmbepaaGreatDoor

namespace Go.Proofs.YtbjlkdenkmbepaaGreatDoor
open Go.RowKit

/-- a lasting fact on a value, and one on the value of the slot lk. -/
structure Tl (R : World → World → Prop) extends Ty R where
  lk : Option Nat
  s : Value → World → Prop
  us : ∀ u w w', R w w' → s u w → s u w'

section
variable {P : Program} {R : World → World → Prop}
def Ty.l (t : Ty R) : Tl R := { t with lk := none, s := fun _ _ => True, us := fun _ _ _ _ _ => trivial }
def tlAt (T : List (Tl R)) (i : Nat) : Tl R := match T[i]? with | some t => t | none => (tyAny R).l
abbrev tys (T : List (Tl R)) : List (Ty R) := T.map Tl.toTy
theorem tyAt_tys (T : List (Tl R)) (i : Nat) : tyAt (tys T) i = (tlAt T i).toTy := by
  unfold tyAt tlAt tys
  rw [List.getElem?_map]
  cases T[i]? <;> rfl
def GoodL (P : Program) (R : World → World → Prop) (M : World → Prop) (T : Tl R) (u : Value) (w : World) : Result Next → Prop
  | .ok (.value v) w' => R w w' ∧ M w' ∧ T.p v w' ∧ T.s u w'
  | .ok .skip w' => R w w' ∧ M w' ∧ T.p undef w' ∧ T.s u w'
  | .ok (.enter f args) w' => Calls P f args w' fun e w'' => ∃ v, e = .returned v ∧ R w w'' ∧ M w'' ∧ T.p v w'' ∧ T.s u w''
  | _ => False
def lkA (T : Tl R) (ρ : Operand → Value) : Value := match T.lk with | some t => ρ (.tmp t) | none => undef
def lkv (l : List Oper) (T : List (Tl R)) (vs : Nat → Value) (j : Nat) : Value := match (tlAt T j).lk with | some t => (match prodOf l t with | some i => vs i | none => undef) | none => undef
def OpOkL (P : Program) (R : World → World → Prop) (M : Nat → World → Prop) (d : Nat) (D : World → Prop) (l : List Oper) (a : Act) (T : List (Tl R)) (w0 : World) (i : Nat) (o : Oper) : Prop :=
  ∀ k w ρ, k < l.length → R w0 w → M k w → ((i == d || reach l l.length d i) = true → D w) → factsOf l a (tys T) ρ w o o.op.operands.toList →
    match o.guard with
    | none => GoodL P R (fun w' => M (k + 1) w' ∧ (i ≠ d → D w → D w')) (tlAt T i) (lkA (tlAt T i) ρ) w ((execOp ρ o).run P w)
    | some (j, b) => ∀ u, (tlAt T j).p u w → (u = .bool b → GoodL P R (fun w' => M (k + 1) w' ∧ (i ≠ d → D w → D w')) (tlAt T i) (lkA (tlAt T i) ρ) w ((execOp ρ o).run P w)) ∧ (u ≠ .bool b → M (k + 1) w ∧ (tlAt T i).p undef w ∧ (tlAt T i).s (lkA (tlAt T i) ρ) w)
def OpsOkL (P : Program) (R : World → World → Prop) (M : Nat → World → Prop) (d : Nat) (D : World → Prop) (l : List Oper) (a : Act) (T : List (Tl R)) (w0 : World) : Nat → List Oper → Prop
  | _, [] => True
  | i, o :: rest => OpOkL P R M d D l a T w0 i o ∧ OpsOkL P R M d D l a T w0 (i + 1) rest
/-- the values so far. -/
def pastP (vs : Nat → Value) (i : Nat) (v : Value) : Nat → Value := fun j => if j = i then v else vs j
def EndAllL (L : List Oper) (T : List (Tl R)) (w : World) (Q : Act → Prop) : Nat → List Oper → Act → (Nat → Value) → Prop
  | _, [], a, _ => Q a
  | i, o :: rest, a, vs => ∀ v, (tlAt T i).p v w → (tlAt T i).s (lkv L T vs i) w → EndAllL L T w Q (i + 1) rest (a.put o.dst v) (pastP vs i v)
def lkFit (l : List Oper) (T : List (Tl R)) : Bool := (List.range l.length).all fun i => match (tlAt T i).lk with
  | none => true
  | some t => match l[i]?, prodOf l t with | some o, some j => depOn o j && decide (j < i) | _, _ => false
theorem lkFit_at {l : List Oper} {T : List (Tl R)} (h : lkFit l T = true) {i t : Nat} {o : Oper} (ho : l[i]? = some o) (hl : (tlAt T i).lk = some t) : ∃ j, prodOf l t = some j ∧ depOn o j = true ∧ j < i := by
  have hi : i < l.length := (List.getElem?_eq_some_iff.1 ho).1
  unfold lkFit at h
  rw [List.all_eq_true] at h
  have := h i (List.mem_range.2 hi)
  simp only [hl, ho] at this
  cases hp : prodOf l t with
  | none => simp only [hp] at this; cases this
  | some j => simp only [hp] at this; simp at this; exact ⟨j, rfl, this⟩
theorem opsOkL_at {M : Nat → World → Prop} {d : Nat} {D : World → Prop} {l : List Oper} {a : Act} {T : List (Tl R)} {w0 : World} : ∀ (m : List Oper) (i : Nat), OpsOkL P R M d D l a T w0 i m → ∀ j o, m[j]? = some o → OpOkL P R M d D l a T w0 (i + j) o
  | [], _, _, j, o, h => by simp at h
  | x :: m, i, h, 0, o, ho => by
    simp at ho; subst ho
    exact h.1
  | x :: m, i, h, j + 1, o, ho => by
    have := opsOkL_at m (i + 1) h.2 j o (by simpa using ho)
    rwa [Nat.add_assoc, Nat.add_comm 1 j] at this

structure InvL (M : Nat → World → Prop) (dd : Nat) (D : World → Prop) (l : List Oper) (a : Act) (T : List (Tl R)) (w0 : World) (listed : Array Bool) (vs : Nat → Value) (k : Nat) (a' : Act) (w' : World) : Prop where
  r : R w0 w'
  m : M k w'
  d : a'.defers = a.defers
  s : a'.tmps.size = a.tmps.size
  t : ∀ t, a'.tmps[t]? = (match prodOf l t with | some j => if listed.getD j true = true then (if t < a.tmps.size then some (vs j) else none) else a.tmps[t]? | none => a.tmps[t]?)
  f : ∀ j, j < l.length → listed.getD j true = true → (tlAt T j).p (vs j) w' ∧ (tlAt T j).s (lkv l T vs j) w'
  n : listed.getD dd true = false → D w'

theorem facts_of_invL {M : Nat → World → Prop} {dd : Nat} {D : World → Prop} {l : List Oper} {a a' : Act} {T : List (Tl R)} {w0 w' : World} {listed : Array Bool} {vs : Nat → Value} {k : Nat} (h : InvL M dd D l a T w0 listed vs k a' w') (o : Oper)
    (xs : List Operand) (hx : ∀ x ∈ xs, ∀ t j, x = .tmp t → prodOf l t = some j → if depOn o j = true then (listed.getD j true = true ∧ j < l.length ∧ t < a.tmps.size) else listed.getD j true = false) : factsOf l a (tys T) a'.eval w' o xs := by
  induction xs with
  | nil => trivial
  | cons x xs ih =>
    refine ⟨?_, ih fun y hy => hx y (List.mem_cons_of_mem _ hy)⟩
    unfold factOf
    cases x with
    | tmp t =>
      simp only []
      have ht := h.t t
      unfold srcOf
      cases hp : prodOf l t with
      | none =>
        rw [hp] at ht
        simp only at ht ⊢
        show a'.tmps.getD t undef = a.tmps.getD t undef
        rw [Array.getD_eq_getD_getElem?, Array.getD_eq_getD_getElem?, ht]
      | some j =>
        rw [hp] at ht
        have hxx := hx (.tmp t) (List.mem_cons_self ..) t j rfl hp
        dsimp only
        cases hdep : depOn o j with
        | false =>
          rw [hdep] at hxx
          simp only [Bool.false_eq_true, if_false] at hxx
          simp only [hxx, Bool.false_eq_true, if_false] at ht ⊢
          show a'.tmps.getD t undef = a.tmps.getD t undef
          rw [Array.getD_eq_getD_getElem?, Array.getD_eq_getD_getElem?, ht]
        | true =>
        rw [hdep] at hxx
        simp only [if_true] at hxx
        obtain ⟨h1, h2, h3⟩ := hxx
        simp only [h1, if_true, h3] at ht
        simp only [if_true]
        rw [tyAt_tys]
        show (tlAt T j).p (a'.eval (.tmp t)) w'
        have : a'.eval (.tmp t) = vs j := by
          show a'.tmps.getD t undef = _
          rw [Array.getD_eq_getD_getElem?, ht]; rfl
        rw [this]
        exact (h.f j h2 h1).1
    | _ => rfl

theorem endAllL_go {l : List Oper} {a : Act} {T : List (Tl R)} {w' : World} {Q : Act → Prop} {vs : Nat → Value} (hl : ∀ j o, l[j]? = some o → ∀ d, o.dst = some d → prodOf l d = some j) (hv : ∀ j, j < l.length → (tlAt T j).p (vs j) w' ∧ (tlAt T j).s (lkv l T vs j) w') (hlk : lkFit l T = true) :
    ∀ (m : List Oper) (i : Nat) (b : Act) (ws : Nat → Value), (∀ j, j < i → ws j = vs j) → (∀ j, m[j]? = l[i + j]?) → UpTo l a vs i b → EndAllL l T w' Q i m b ws → ∃ a', Q a' ∧ UpTo l a vs l.length a'
  | [], i, b, ws, hws, hm, hb, h => by
    refine ⟨b, h, hb.1, hb.2.1, fun t => ?_⟩
    rw [hb.2.2 t]
    have hi : l.length ≤ i := by
      have := (hm 0).symm
      simpa using this
    cases hp : prodOf l t with
    | none => rfl
    | some j =>
      have := prodOf_lt hp
      simp only [show j < i by omega, this, if_true]
  | o :: m, i, b, ws, hws, hm, hb, h => by
    have ho : l[i]? = some o := by simpa using (hm 0).symm
    have hil : i < l.length := (List.getElem?_eq_some_iff.1 ho).1
    have hlw : lkv l T ws i = lkv l T vs i := by
      unfold lkv
      cases hlt : (tlAt T i).lk with
      | none => rfl
      | some t =>
        obtain ⟨j, hp, _, hj⟩ := lkFit_at hlk ho hlt
        simp only [hp]
        exact hws j hj
    have h1 := h (vs i) (hv i hil).1 (by rw [hlw]; exact (hv i hil).2)
    refine endAllL_go hl hv hlk m (i + 1) (b.put o.dst (vs i)) (pastP ws i (vs i)) (fun j hj => by
      unfold pastP
      by_cases hji : j = i
      · rw [if_pos hji, hji]
      · rw [if_neg hji]; exact hws j (by omega)) (fun j => by have := hm (j + 1); simpa [Nat.add_assoc, Nat.add_comm 1 j] using this) ⟨?_, ?_, fun t => ?_⟩ h1
    · rw [← hb.1]; cases o.dst <;> rfl
    · rw [← hb.2.1]; cases o.dst <;> simp [Act.put]
    · have ht := hb.2.2 t
      cases hd : o.dst with
      | none =>
        show b.tmps[t]? = _
        rw [ht]
        cases hp : prodOf l t with
        | none => rfl
        | some j =>
          have hne : j ≠ i := prod_ne ho (by rw [hd]; simp) hp
          simp only []
          by_cases hj : j < i
          · simp only [hj, show j < i + 1 by omega]
          · simp only [hj, show ¬ j < i + 1 by omega]
      | some d =>
        have hpd := hl i o ho d hd
        by_cases hdt : d = t
        · subst hdt
          rw [hpd]
          simp only [show i < i + 1 by omega, if_true]
          show (b.tmps.setIfInBounds d (vs i))[d]? = _
          rw [Array.getElem?_setIfInBounds_self]
          rw [hb.2.1]
        · show (b.tmps.setIfInBounds d (vs i))[t]? = _
          rw [Array.getElem?_setIfInBounds_ne hdt, ht]
          cases hp : prodOf l t with
          | none => rfl
          | some j =>
            have hne : j ≠ i := prod_ne ho (by rw [hd]; simpa using hdt) hp
            simp only []
            by_cases hj : j < i
            · simp only [hj, show j < i + 1 by omega]
            · simp only [hj, show ¬ j < i + 1 by omega]

theorem oper_wp_of_goodL {M : World → Prop} {T : Tl R} {u : Value} {w : World} {o : Oper} {a : Act} {K : Act → World → Prop} {Q : Exit → Act → World → Prop}
    (h : GoodL P R M T u w ((execOp a.eval o).run P w)) (hK : ∀ v w', R w w' → M w' → T.p v w' → T.s u w' → K (a.put o.dst v) w') : o.wp P a w K Q := by
  unfold Oper.wp
  generalize (execOp a.eval o).run P w = r at *
  cases r with
  | ok n w' =>
    cases n <;> simp only [GoodL] at h <;> simp only [Oper.upon]
    case value u => exact hK _ _ h.1 h.2.1 h.2.2.1 h.2.2.2
    case skip => exact hK _ _ h.1 h.2.1 h.2.2.1 h.2.2.2
    case enter f args => exact h.mono fun e w'' ⟨v, he, h1, h2, h3, h4⟩ => by subst he; exact hK _ _ h1 h2 h3 h4
  | halt x w' => exact h.elim

theorem wpAny_everL {M : Nat → World → Prop} {dd : Nat} {D : World → Prop} {l : List Oper} {a : Act} {T : List (Tl R)} {w0 : World} {Q : Exit → Act → World → Prop} (hrefl : ∀ a, R a a) (trans : ∀ a b c, R a b → R b c → R a c)
    (hB : regFit l a.tmps.size 0 l = true) (hlk : lkFit l T = true) (hops : OpsOkL P R M dd D l a T w0 0 l) (hend : ∀ w', R w0 w' → M l.length w' → EndAllL l T w' (fun a' => Q .normal a' w') 0 l a (fun _ => undef)) :
    ∀ (fuel k : Nat) (listed : Array Bool) (vs : Nat → Value) (a' : Act) (w' : World), fuel + k = l.length → listed.size = l.length → openN l.length listed = fuel → (∀ j, j < l.length → listed.getD j true = true → ∀ o, l[j]? = some o → ∀ e ∈ o.after, Region.binds .any e = true → listed.getD e.on false = true) → InvL M dd D l a T w0 listed vs k a' w' → wpAny P .any l.toArray Q fuel listed a' w' := by
  have hdone : ∀ (k : Nat) (listed : Array Bool) (vs : Nat → Value) (a' : Act) (w' : World), k = l.length → (∀ j, j < l.length → listed.getD j true = true) → InvL M dd D l a T w0 listed vs k a' w' → Q .normal a' w' := by
    intro k listed vs a' w' hk hall hi
    subst hk
    have hu : UpTo l a vs 0 a := ⟨rfl, rfl, fun t => by cases prodOf l t <;> simp⟩
    obtain ⟨b, hq, hb⟩ := endAllL_go (T := T) (w' := w') (Q := fun a' => Q .normal a' w') (vs := vs) (l := l) (a := a)
      (fun j o ho d hd => by
        have := regFit_at l 0 hB j o ho
        unfold opFit at this
        simp only [Bool.and_eq_true, hd, Nat.zero_add] at this
        have h2 := this.1.2
        simp at h2
        exact h2.1)
      (fun j hj => hi.f j hj (hall j hj)) hlk l 0 a (fun _ => undef) (fun j hj => absurd hj (by omega)) (fun j => by simp) hu (hend w' hi.r hi.m)
    have hc : UpTo l a vs l.length a' := ⟨hi.d, hi.s, fun t => by
      rw [hi.t t]
      cases hp : prodOf l t with
      | none => rfl
      | some j =>
        have := prodOf_lt hp
        simp only [hall j this, this, if_true]⟩
    rw [upTo_ext hc hb]
    exact hq
  intro fuel
  induction fuel with
  | zero =>
    intro k listed vs a' w' hk hsz ho _ hi
    have hall : ∀ j, j < l.length → listed.getD j true = true := by
      intro j hj
      cases hlj : listed.getD j true with
      | true => rfl
      | false =>
        have := openN_set hj hlj
        omega
    refine ⟨?_, hdone k listed vs a' w' (by omega) hall hi⟩
    rw [List.eq_nil_iff_forall_not_mem]
    intro i hmem
    rw [mem_ready] at hmem
    obtain ⟨h1, o, ho', _⟩ := hmem
    have : i < l.length := by simpa using (Array.getElem?_eq_some_iff.1 ho').1
    rw [hall i this] at h1
    cases h1
  | succ fuel ih =>
    intro k listed vs a' w' hk hsz ho hcl hi
    refine ⟨fun hnil => ?_, fun i hmem => ?_⟩
    · exfalso
      have least : ∀ j, j < l.length → listed.getD j true = false → False := by
        intro j
        induction j using Nat.strongRecOn with
        | ind j ihj =>
          intro hj hlj
          have hol : l[j]? = some l[j] := List.getElem?_eq_getElem hj
          have hfit := regFit_at l 0 hB j _ hol
          rw [Nat.zero_add] at hfit
          unfold opFit at hfit
          simp only [Bool.and_eq_true] at hfit
          have haft := hfit.2
          have : j ∈ Region.ready .any l.toArray listed := by
            rw [mem_ready]
            refine ⟨hlj, l[j], by simp [hol], fun e he hb => ?_⟩
            rw [Array.all_eq_true_iff_forall_mem] at haft
            have h1 := haft e he
            rw [hb] at h1
            simp at h1
            cases h2 : listed.getD e.on true with
            | false => exact (ihj e.on h1 (by omega) h2).elim
            | true =>
              have h3 : e.on < listed.size := by omega
              simp [h3] at h2 ⊢
              exact h2
          rw [hnil] at this
          cases this
      obtain ⟨j, hj, hlj⟩ := openN_pos (n := l.length) (listed := listed) (by omega)
      exact least j hj hlj
    · rw [mem_ready] at hmem
      obtain ⟨h1, o, ho', h2⟩ := hmem
      have hlt : i < l.length := by simpa using (Array.getElem?_eq_some_iff.1 ho').1
      have hol : l[i]? = some o := by simpa using ho'
      have hfit := regFit_at l 0 hB i o hol
      rw [Nat.zero_add] at hfit
      unfold opFit at hfit
      simp only [Bool.and_eq_true] at hfit
      obtain ⟨⟨⟨⟨hg, hs⟩, hopd⟩, hdst⟩, haft⟩ := hfit
      have hok := opsOkL_at l 0 hops i o hol
      rw [Nat.zero_add] at hok
      have hfacts : factsOf l a (tys T) a'.eval w' o o.op.operands.toList := facts_of_invL hi o _ fun x hx t j hxt hp => by
        subst hxt
        rw [List.all_eq_true] at hopd
        have := hopd _ hx
        simp only [hp, Bool.or_eq_true, beq_iff_eq] at this
        by_cases hdep : depOn o j = true
        case neg =>
          rw [if_neg hdep]
          rcases this with h | h | h
          · exact absurd h hdep
          · rw [h]; exact h1
          · cases hlj : listed.getD j true with
            | false => rfl
            | true =>
              have := reach_listed hcl _ _ _ hlj h (prodOf_lt hp)
              rw [h1] at this; cases this
        rw [if_pos hdep]
        obtain ⟨e, he, hee⟩ := List.any_eq_true.1 hdep
        rw [Array.mem_toList_iff] at he
        simp only [Bool.and_eq_true, beq_iff_eq] at hee
        have h3 := h2 e he hee.2
        rw [hee.1] at h3
        have hj := prodOf_lt hp
        refine ⟨?_, hj, ?_⟩
        · rw [Array.getD_eq_getD_getElem?] at h3 ⊢
          cases hx : listed[j]? with
          | none => rfl
          | some b => rw [hx] at h3; simpa using h3
        · have h4 := hp
          unfold prodOf at h4
          rw [List.findIdx?_eq_some_iff_getElem] at h4
          obtain ⟨_, h5, _⟩ := h4
          have h6 := regFit_at l 0 hB j l[j] (List.getElem?_eq_getElem hj)
          unfold opFit at h6
          simp only [Bool.and_eq_true] at h6
          have h7 := h6.1.2
          have h8 : l[j].dst = some t := by simpa using h5
          rw [h8] at h7
          simp at h7
          exact h7.2
      have hD : (i == dd || reach l l.length dd i) = true → D w' := by
        intro hr
        refine hi.n ?_
        rw [Bool.or_eq_true, beq_iff_eq] at hr
        rcases hr with rfl | hr
        · exact h1
        · cases hlj : listed.getD dd true with
          | false => rfl
          | true =>
            by_cases hdl : dd < l.length
            · have := reach_listed hcl _ _ _ hlj hr hdl
              rw [h1] at this; cases this
            · generalize l.length = n at hr
              cases n with
              | zero => cases hr
              | succ n =>
                unfold reach at hr
                rw [List.getElem?_eq_none (by omega)] at hr
                cases hr
      have hgood := hok k w' a'.eval (by omega) hi.r hi.m hD hfacts
      have hgo : (Region.wanted o (yielded l.toArray a'.tmps) = true ∧ GoodL P R (fun w'' => M (k + 1) w'' ∧ (i ≠ dd → D w' → D w'')) (tlAt T i) (lkA (tlAt T i) a'.eval) w' ((execOp a'.eval o).run P w')) ∨ (Region.wanted o (yielded l.toArray a'.tmps) = false ∧ M (k + 1) w' ∧ (tlAt T i).p undef w' ∧ (tlAt T i).s (lkA (tlAt T i) a'.eval) w') := by
        cases hgo : o.guard with
        | none =>
          rw [hgo] at hgood
          exact .inl ⟨by simp [Region.wanted, hgo], hgood⟩
        | some g =>
          obtain ⟨j, b⟩ := g
          rw [hgo] at hgood hg
          simp only [Bool.and_eq_true] at hg
          obtain ⟨hg1, hg2⟩ := hg
          obtain ⟨e, he, hee⟩ := List.any_eq_true.1 hg1
          rw [Array.mem_toList_iff] at he
          simp only [Bool.and_eq_true, beq_iff_eq] at hee
          have h3 := h2 e he hee.2
          rw [hee.1] at h3
          have h3' : listed.getD j true = true := by
            rw [Array.getD_eq_getD_getElem?] at h3 ⊢
            cases hx : listed[j]? with
            | none => rfl
            | some b => rw [hx] at h3; simpa using h3
          cases hlj : l[j]? with
          | none => rw [hlj] at hg2; cases hg2
          | some oj =>
            rw [hlj] at hg2
            simp only [Option.isSome_iff_exists] at hg2
            obtain ⟨d, hd⟩ := hg2
            have hjl : j < l.length := (List.getElem?_eq_some_iff.1 hlj).1
            have hfj := regFit_at l 0 hB j oj hlj
            unfold opFit at hfj
            simp only [Bool.and_eq_true, hd, Nat.zero_add] at hfj
            have h4 := hfj.1.2
            simp at h4
            have h5 := hi.t d
            rw [h4.1] at h5
            simp only [h3', if_true, h4.2] at h5
            have hy : yielded l.toArray a'.tmps j = (match vs j with | .bool b => some b | _ => none) := by
              unfold yielded
              simp only [List.getElem?_toArray, hlj, Option.bind_some, hd, h5]
              cases vs j <;> rfl
            have h6 := hgood (vs j) (hi.f j hjl h3').1
            by_cases hv : vs j = .bool b
            · refine .inl ⟨?_, h6.1 hv⟩
              simp [Region.wanted, hgo, hy, hv]
            · refine .inr ⟨?_, h6.2 hv⟩
              simp only [Region.wanted, hgo, hy]
              cases hvj : vs j <;> simp_all
      have hlink : lkA (tlAt T i) a'.eval = lkv l T vs i := by
        unfold lkA lkv
        cases hlt : (tlAt T i).lk with
        | none => rfl
        | some t =>
          obtain ⟨j, hp, hdep, _⟩ := lkFit_at hlk hol hlt
          simp only [hp]
          obtain ⟨e, he, hee⟩ := List.any_eq_true.1 hdep
          rw [Array.mem_toList_iff] at he
          simp only [Bool.and_eq_true, beq_iff_eq] at hee
          have h3 := h2 e he hee.2
          rw [hee.1] at h3
          have hjt : listed.getD j true = true := by
            rw [Array.getD_eq_getD_getElem?] at h3 ⊢
            cases hx : listed[j]? with
            | none => rfl
            | some b => rw [hx] at h3; simpa using h3
          have hjl := prodOf_lt hp
          have h4 := hp
          unfold prodOf at h4
          rw [List.findIdx?_eq_some_iff_getElem] at h4
          obtain ⟨_, h5, _⟩ := h4
          have h6 := regFit_at l 0 hB j l[j] (List.getElem?_eq_getElem hjl)
          unfold opFit at h6
          simp only [Bool.and_eq_true] at h6
          have h7 := h6.1.2
          have h8 : l[j].dst = some t := by simpa using h5
          rw [h8] at h7
          simp at h7
          have ht := hi.t t
          rw [hp] at ht
          simp only [hjt, if_true, h7.2] at ht
          show a'.tmps.getD t undef = vs j
          rw [Array.getD_eq_getD_getElem?, ht]; rfl
      have hfin : ∀ v w'', R w' w'' → (M (k + 1) w'' ∧ (i ≠ dd → D w' → D w'')) → (tlAt T i).p v w'' → (tlAt T i).s (lkA (tlAt T i) a'.eval) w'' → wpAny P .any l.toArray Q fuel (listed.setIfInBounds i true) (a'.put o.dst v) w'' := by
       intro v w'' hr hm hT hS
       rw [hlink] at hS
       have hsame : ∀ j, j < l.length → (listed.getD j true = true ∨ j = i) → lkv l T (fun j => if j = i then v else vs j) j = lkv l T vs j := by
         intro j hj hjl
         unfold lkv
         cases hlt : (tlAt T j).lk with
         | none => rfl
         | some t =>
           have hoj : l[j]? = some l[j] := List.getElem?_eq_getElem hj
           obtain ⟨q, hp, hdep, hqj⟩ := lkFit_at hlk hoj hlt
           simp only [hp]
           have hqi : q ≠ i := by
             rcases hjl with hjl | rfl
             · intro e0
               obtain ⟨e, he, hee⟩ := List.any_eq_true.1 hdep
               rw [Array.mem_toList_iff] at he
               simp only [Bool.and_eq_true, beq_iff_eq] at hee
               have h3 := hcl j hj hjl _ hoj e he hee.2
               rw [hee.1, e0] at h3
               have : listed.getD i true = true := by
                 rw [Array.getD_eq_getD_getElem?] at h3 ⊢
                 cases hx : listed[i]? with
                 | none => rfl
                 | some b => rw [hx] at h3; simpa using h3
               rw [h1] at this; cases this
             · omega
           rw [if_neg hqi]
       refine ih (k + 1) _ (fun j => if j = i then v else vs j) _ _ (by omega) (by simpa using hsz) (by have := openN_set hlt h1; omega) ?_ ⟨trans _ _ _ hi.r hr, hm.1, ?_, ?_, ?_, ?_, ?_⟩
       · intro j hj hlj oj hoj e he hb
         by_cases hji : j = i
         · subst hji
           rw [hol] at hoj
           injection hoj with hoj
           subst hoj
           exact getD_set_true (h2 e he hb)
         · rw [getD_set_ne true (Ne.symm hji)] at hlj
           exact getD_set_true (hcl j hj hlj oj hoj e he hb)
       · rw [← hi.d]; cases o.dst <;> rfl
       · rw [← hi.s]; cases o.dst <;> simp [Act.put]
       · intro t
         have ht := hi.t t
         cases hd : o.dst with
         | none =>
           show a'.tmps[t]? = _
           rw [ht]
           cases hp : prodOf l t with
           | none => rfl
           | some j =>
             have hne : j ≠ i := prod_ne hol (by rw [hd]; simp) hp
             simp only [if_neg hne, getD_set_ne true (Ne.symm hne)]
         | some d =>
           rw [hd] at hdst
           simp at hdst
           by_cases hdt : d = t
           · subst hdt
             rw [hdst.1]
             have h3 : (listed.setIfInBounds i true).getD i true = true := by simp [hsz, hlt]
             simp only [h3, if_true, hdst.2]
             show (a'.tmps.setIfInBounds d v)[d]? = _
             rw [Array.getElem?_setIfInBounds_self, hi.s, if_pos hdst.2]
           · show (a'.tmps.setIfInBounds d v)[t]? = _
             rw [Array.getElem?_setIfInBounds_ne hdt, ht]
             cases hp : prodOf l t with
             | none => rfl
             | some j =>
               have hne : j ≠ i := prod_ne hol (by rw [hd]; simpa using hdt) hp
               simp only [if_neg hne, getD_set_ne true (Ne.symm hne)]
       · intro j hj hlj
         by_cases hji : j = i
         · rw [hsame j hj (.inr hji)]
           subst hji
           exact ⟨by simpa using hT, hS⟩
         · rw [getD_set_ne true (Ne.symm hji)] at hlj
           rw [hsame j hj (.inl hlj)]
           simp only [if_neg hji]
           exact ⟨(tlAt T j).up _ _ _ hr (hi.f j hj hlj).1, (tlAt T j).us _ _ _ hr (hi.f j hj hlj).2⟩
       · intro hn
         have hne : dd ≠ i := by
           intro e0
           subst e0
           rw [show (listed.setIfInBounds dd true).getD dd true = true by simp [hsz, hlt]] at hn
           cases hn
         rw [getD_set_ne true (Ne.symm hne)] at hn
         exact hm.2 (Ne.symm hne) (hi.n hn)
      unfold wpOp
      simp only [ho']
      rcases hgo with ⟨hw, hgd⟩ | ⟨hw, hm, hT, hS⟩
      · rw [if_pos hw]
        exact .inl (oper_wp_of_goodL hgd hfin)
      · rw [if_neg (by rw [hw]; simp)]
        exact hfin undef w' (hrefl _) ⟨hm, fun _ h => h⟩ hT hS

/-- the law. -/
theorem wp_region_everL {M : Nat → World → Prop} {l : List Oper} {a : Act} {w : World} {Q : Exit → Act → World → Prop} {id : Nat} (d : Nat) (D : World → Prop) (T : List (Tl R)) (hm : P.follows .mixedOrders = true) (hrefl : ∀ a, R a a) (trans : ∀ a b c, R a b → R b c → R a c)
    (hB : regFit l a.tmps.size 0 l = true) (hlk : lkFit l T = true) (h0 : M 0 w.drew) (hD0 : D w.drew) (hops : OpsOkL P R M d D l a T w.drew 0 l) (hend : ∀ w', R w.drew w' → M l.length w' → EndAllL l T w' (fun a' => Q .normal a' w') 0 l a (fun _ => undef)) : (Code.region id l.toArray true).wp P Q a w := by
  refine wp_region_any hm ?_
  refine wpAny_everL (M := M) (dd := d) (D := D) (T := T) (w0 := w.drew) hrefl trans hB hlk hops hend _ 0 _ (fun _ => undef) a _ (by simp) (by simp) (by simp [openN_all]) (fun j hj h => by simp [hj] at h) ⟨hrefl _, h0, rfl, rfl, fun t => ?_, fun j hj h => ?_, fun _ => hD0⟩
  · cases hp : prodOf l t with
    | none => rfl
    | some j =>
      have := prodOf_lt hp
      simp [this]
  · simp [hj] at h

theorem goodL_of {M : World → Prop} {T : Tl R} {u : Value} {w : World} {r : Result Next} (hs : ∀ w, T.s u w) (h : ∀ K : Value → World → Prop, (∀ v w'', R w w'' → M w'' → T.p v w'' → K v w'') → GoodK P K r) : GoodL P R M T u w r := by
  have := h (fun v w'' => R w w'' ∧ M w'' ∧ T.p v w'' ∧ T.s u w'') (fun v w'' h1 h2 h3 => ⟨h1, h2, h3, hs _⟩)
  cases r with
  | ok n w' => cases n <;> exact this
  | halt x w' => exact this
theorem goodL_ofs {M : World → Prop} {T : Tl R} {u : Value} {w : World} {r : Result Next} (h : ∀ K : Value → World → Prop, (∀ v w'', R w w'' → M w'' → T.p v w'' → T.s u w'' → K v w'') → GoodK P K r) : GoodL P R M T u w r := by
  have := h (fun v w'' => R w w'' ∧ M w'' ∧ T.p v w'' ∧ T.s u w'') (fun v w'' h1 h2 h3 h4 => ⟨h1, h2, h3, h4⟩)
  cases r with
  | ok n w' => cases n <;> exact this
  | halt x w' => exact this

end

/-- block i holds the cells V, and may be written. -/
def Is (w : World) (i : Nat) (V : Array Value) : Prop := (∀ o, w.cell? ⟨i, o, none⟩ = V[o]?) ∧ ∀ o, w.frozen? ⟨i, o, none⟩ = false
theorem Is.of_block {a b : World} {i : Nat} {V : Array Value} (h : Is a i V) (hb : b.heap[i]? = a.heap[i]?) : Is b i V :=
  ⟨fun o => (World.cell?_of_block (a := ⟨i, o, none⟩) hb).trans (h.1 o), fun o => (World.frozen?_of_block (a := ⟨i, o, none⟩) hb).trans (h.2 o)⟩
/-- the world goes on: a block that was there is as it was, or it is a new one, or one of L, that holds V now. -/
structure RV (B : Nat) (L : List Nat) (V : Array Value) (a b : World) : Prop where
  os : b.os = a.os
  tape : b.tape = a.tape
  output : b.output = a.output
  size : a.heap.size ≤ b.heap.size
  block : ∀ i, i < a.heap.size → b.heap[i]? = a.heap[i]? ∨ ((B ≤ i ∨ i ∈ L) ∧ Is b i V)
section
variable {B : Nat} {L : List Nat} {V : Array Value} {a b c : World}
theorem RV.refl (B : Nat) (L : List Nat) (V : Array Value) (a : World) : RV B L V a a := ⟨rfl, rfl, rfl, Nat.le_refl _, fun _ _ => .inl rfl⟩
theorem RV.trans (h : RV B L V a b) (k : RV B L V b c) : RV B L V a c := ⟨k.os.trans h.os, k.tape.trans h.tape, k.output.trans h.output, Nat.le_trans h.size k.size, fun i hi => by
  rcases k.block i (Nat.lt_of_lt_of_le hi h.size) with h1 | h1
  · rcases h.block i hi with h2 | h2
    · exact .inl (h1.trans h2)
    · exact .inr ⟨h2.1, h2.2.of_block h1⟩
  · exact .inr h1⟩
theorem RV.below (h : RV B L V a b) (k : Below b.heap.size b c) : RV B L V a c := h.trans ⟨k.os, k.tape, k.output, k.size, fun i hi => .inl (k.block i hi)⟩
theorem RV.of_below (k : Below b.heap.size b c) : RV B L V b c := (RV.refl _ _ _ _).below k
theorem RV.alloc (b : World) (o : Obj) : RV B L V b (b.alloc o) := RV.of_below (up_alloc (Below.refl _ _) o)
theorem RV.grown {g : Nat} (k : b.grownBy c (some g)) (hg : B ≤ g ∨ g ∈ L) (hv : Is c g V) : RV B L V b c := ⟨k.os, k.tape, k.output, k.size, fun i hi => by
  by_cases hi2 : i = g
  · subst hi2; exact .inr ⟨hg, hv⟩
  · exact .inl (k.block i hi (by simpa using fun e => hi2 (by rw [e])))⟩
theorem RV.to_below (h : RV a.heap.size [] V a.drew b) : Below a.heap.size a b := ⟨h.os, h.tape, h.output, h.size, fun i hi => by
  rcases h.block i hi with h1 | h1
  · exact h1
  · rcases h1.1 with h2 | h2
    · omega
    · cases h2⟩
theorem RV.same (h : RV B L V a b) {i : Nat} (hi : i < a.heap.size) (hB : i < B) (hL : i ∉ L) : b.heap[i]? = a.heap[i]? := by
  rcases h.block i hi with h1 | h1
  · exact h1
  · rcases h1.1 with h2 | h2
    · omega
    · exact absurd h2 hL
theorem RV.cell (h : RV B L V a b) {i : Nat} (hi : i < a.heap.size) (hB : i < B) (hL : i ∉ L) (o : Nat) : b.cell? ⟨i, o, none⟩ = a.cell? ⟨i, o, none⟩ := World.cell?_of_block (a := ⟨i, o, none⟩) (h.same hi hB hL)
end
def vAny (B : Nat) (L : List Nat) (V : Array Value) : Ty (RV B L V) := ⟨fun _ _ => True, fun _ _ _ _ h => h⟩
def vEq (B : Nat) (L : List Nat) (V : Array Value) (u : Value) : Ty (RV B L V) := ⟨fun v _ => v = u, fun _ _ _ _ h => h⟩
/-- a pointer to a new box of as many cells as V. -/
def vBox (B : Nat) (L : List Nat) (V : Array Value) : Ty (RV B L V) := ⟨fun v w => ∃ i, v = .pointer (some ⟨i, 0, none⟩) ∧ B ≤ i ∧ i < w.heap.size ∧ ∃ A : Array Value, A.size = V.size ∧ Is w i A, fun v w w' hR ⟨i, hv, h1, h2, A, h3, h4⟩ =>
  ⟨i, hv, h1, Nat.lt_of_lt_of_le h2 hR.size, by
    rcases hR.block i h2 with h | h
    · exact ⟨A, h3, h4.of_block h⟩
    · exact ⟨V, rfl, h.2⟩⟩⟩
/-- V is stored in the box to which slot t points. -/
def vPut (B : Nat) (L : List Nat) (V : Array Value) (t : Nat) : Tl (RV B L V) := { vAny B L V with
  lk := some t
  s := fun u w => ∀ i, u = .pointer (some ⟨i, 0, none⟩) → i < w.heap.size ∧ Is w i V
  us := fun u w w' hR h i hu => by
    obtain ⟨h1, h2⟩ := h i hu
    refine ⟨Nat.lt_of_lt_of_le h1 hR.size, ?_⟩
    rcases hR.block i h1 with h | h
    · exact h2.of_block h
    · exact h.2 }
theorem RV.of_drew {B : Nat} {L : List Nat} {V : Array Value} {a b : World} (h : RV B L V a.drew b) : RV B L V a b := ⟨h.os, h.tape, h.output, h.size, h.block⟩
theorem new_is (w : World) (A : Array Value) (t : TypeId) : Is (w.alloc (.cells A t)) w.heap.size A :=
  ⟨fun o => World.cell?_alloc_new w A t o, fun o => World.frozen?_alloc_new w A t o⟩
theorem vbox_mk {w : World} {A V : Array Value} {t : TypeId} (h : A.size = V.size) : ∃ A' : Array Value, A'.size = V.size ∧ Is (w.alloc (.cells A t)) w.heap.size A' := ⟨A, h, new_is w A t⟩
theorem Is.box {w : World} {i : Nat} {V : Array Value} (hc : ∀ o, w.cell? ⟨i, o, none⟩ = V[o]?) (hf : ∀ o, w.frozen? ⟨i, o, none⟩ = false) : Is w i V := ⟨hc, hf⟩
theorem Is.up {w w' : World} {i : Nat} {V : Array Value} (h : Is w i V) (hi : i < w.heap.size) (hb : Below w.heap.size w w') : Is w' i V := h.of_block (hb.block i hi)
/-- all cells of a block are written. -/
def putV (w : World) (b : Nat) (V : Array Value) : World := w.setCells b 0 V.toList
theorem setCells_size (b : Nat) : ∀ (vs : List Value) (o : Nat) (w : World), (w.setCells b o vs).heap.size = w.heap.size
  | [], _, _ => rfl
  | v :: r, o, w => by rw [World.setCells, setCells_size b r]; simp [World.setCell]
theorem setCells_other (b : Nat) {i : Nat} (hi : i ≠ b) : ∀ (vs : List Value) (o : Nat) (w : World), (w.setCells b o vs).heap[i]? = w.heap[i]?
  | [], _, _ => rfl
  | v :: r, o, w => by rw [World.setCells, setCells_other b hi r]; exact Below.heap_setCell w ⟨b, o, none⟩ v i hi
theorem setCells_rest (b : Nat) : ∀ (vs : List Value) (o : Nat) (w : World), (w.setCells b o vs).os = w.os ∧ (w.setCells b o vs).tape = w.tape ∧ (w.setCells b o vs).output = w.output
  | [], _, _ => ⟨rfl, rfl, rfl⟩
  | v :: r, o, w => by rw [World.setCells]; exact setCells_rest b r (o + 1) _
theorem put_is {w : World} {b : Nat} {A V : Array Value} (h : Is w b A) (hs : A.size = V.size) : Is (putV w b V) b V := by
  refine ⟨fun o => ?_, fun o => (World.frozen?_setCells b _ _ _ _).trans (h.2 o)⟩
  unfold putV
  by_cases ho : o < V.size
  · have := World.cell?_setCells_in b V.toList 0 w (fun j hj => by
      rw [h.1]
      rw [Array.length_toList] at hj
      simp; omega) o (by simpa using ho)
    rw [Nat.zero_add] at this
    rw [this]
    simp [ho]
  · rw [World.cell?_setCells_out b _ _ _ _ (fun _ _ => .inr (by simp; omega)), h.1]
    rw [Array.getElem?_eq_none (by omega), Array.getElem?_eq_none (by omega)]
theorem put_rv {w : World} {b B : Nat} {L : List Nat} {A V : Array Value} (h : Is w b A) (hs : A.size = V.size) (hb : B ≤ b ∨ b ∈ L) : RV B L V w (putV w b V) := by
  obtain ⟨h1, h2, h3⟩ := setCells_rest b V.toList 0 w
  refine ⟨h1, h2, h3, Nat.le_of_eq (setCells_size b _ _ _).symm, fun i hi => ?_⟩
  by_cases e : i = b
  · subst e
    exact .inr ⟨hb, put_is h hs⟩
  · exact .inl (setCells_other b e _ _ _)
theorem putV_size (w : World) (b : Nat) (V : Array Value) : (putV w b V).heap.size = w.heap.size := setCells_size _ _ _ _
theorem Is.two {w : World} {b : Nat} {A : Array Value} (h : Is w b A) (hs : A.size = 2) : ∃ a0 a1, w.cell? ⟨b, 0, none⟩ = some a0 ∧ w.cell? ⟨b, 1, none⟩ = some a1 := by
  obtain ⟨L⟩ := A
  match L, hs with
  | [a0, a1], _ => exact ⟨a0, a1, h.1 0, h.1 1⟩
theorem Is.three {w : World} {b : Nat} {A : Array Value} (h : Is w b A) (hs : A.size = 3) : ∃ a0 a1 a2, w.cell? ⟨b, 0, none⟩ = some a0 ∧ w.cell? ⟨b, 1, none⟩ = some a1 ∧ w.cell? ⟨b, 2, none⟩ = some a2 := by
  obtain ⟨L⟩ := A
  match L, hs with
  | [a0, a1, a2], _ => exact ⟨a0, a1, a2, h.1 0, h.1 1, h.1 2⟩
end Go.Proofs.YtbjlkdenkmbepaaGreatDoor

namespace Go.Proofs.YtbjlkdenkmbepaaGreatDoor
open Go.RowKit
set_option linter.unusedVariables false

theorem is_setQ {w : World} {b i : Nat} {V : Array Value} (h : Is w b V) (hi : i < V.size) (u : Value) : Is (w.setCell ⟨b, i, none⟩ u) b (V.setIfInBounds i u) := by
  refine ⟨fun o => ?_, fun o => by simp [h.2 o]⟩
  by_cases e : i = o
  · subst e
    rw [World.cell?_setCell_same w ⟨b, i, none⟩ u (u := V[i]) (by rw [h.1]; exact Array.getElem?_eq_getElem hi)]
    simp [hi]
  · rw [World.cell?_setCell_other w ⟨b, i, none⟩ ⟨b, o, none⟩ u (by intro h; injection h; omega), h.1]
    simp [e]
theorem is_all5 {w : World} {r : Nat} {u0 u1 u2 u3 u4 : Value} (hI : Is w r #[u0, u1, u2, u3, u4]) (v0 v1 v2 v3 v4 : Value) : Is (((((w.setCell ⟨r, 0, none⟩ v0).setCell ⟨r, 1, none⟩ v1).setCell ⟨r, 2, none⟩ v2).setCell ⟨r, 3, none⟩ v3).setCell ⟨r, 4, none⟩ v4) r #[v0, v1, v2, v3, v4] := by
  have := is_setQ (is_setQ (is_setQ (is_setQ (is_setQ hI (i := 0) (by simp) v0) (i := 1) (by simp) v1) (i := 2) (by simp) v2) (i := 3) (by simp) v3) (i := 4) (by simp) v4
  simpa using this
theorem is_far5 {w : World} {b r : Nat} {V : Array Value} (h : Is w b V) (hn : b ≠ r) (v0 v1 v2 v3 v4 : Value) : Is (((((w.setCell ⟨r, 0, none⟩ v0).setCell ⟨r, 1, none⟩ v1).setCell ⟨r, 2, none⟩ v2).setCell ⟨r, 3, none⟩ v3).setCell ⟨r, 4, none⟩ v4) b V := by
  have s : ∀ {w : World} (i : Nat) (v : Value), Is w b V → Is (w.setCell ⟨r, i, none⟩ v) b V := fun i v h => h.of_block (Below.heap_setCell _ ⟨r, i, none⟩ v b hn)
  exact s 4 v4 (s 3 v3 (s 2 v2 (s 1 v1 (s 0 v0 h))))
/-- only box r changes, and what is filled stays. -/
def RQ (r : Nat) (F : World → Prop) (a c : World) : Prop := a.grownBy c (some r) ∧ (F a → F c)
/-- box r has five cells. -/
def EX5 (r : Nat) (w : World) : Prop := (∃ u0 u1 u2 u3 u4, Is w r #[u0, u1, u2, u3, u4]) ∧ r < w.heap.size
/-- box r holds these. -/
def FB (r : Nat) (V : Array Value) (w : World) : Prop := Is w r V ∧ r < w.heap.size
section
variable {r : Nat} {F : World → Prop} {V : Array Value} {a b c w w' : World}
theorem RQ.refl (r : Nat) (F : World → Prop) (a : World) : RQ r F a a := ⟨World.grownBy.refl _ _, fun h => h⟩
theorem RQ.trans (h : RQ r F a b) (k : RQ r F b c) : RQ r F a c := ⟨gb_trans h.1 k.1, fun q => k.2 (h.2 q)⟩
theorem RQ.grown (h : RQ r F a.drew c) : a.grownBy c (some r) := ⟨h.1.os, h.1.tape, h.1.output, h.1.size, h.1.block⟩
theorem FB.up (h : FB r V w) (hb : Below w.heap.size w w') : FB r V w' := ⟨h.1.up h.2 hb, Nat.lt_of_lt_of_le h.2 hb.size⟩
theorem EX5.up (h : EX5 r w) (hb : Below w.heap.size w w') : EX5 r w' := by
  obtain ⟨⟨u0, u1, u2, u3, u4, hI⟩, hz⟩ := h
  exact ⟨⟨u0, u1, u2, u3, u4, hI.up hz hb⟩, Nat.lt_of_lt_of_le hz hb.size⟩
theorem gb_upQ (hb : Below w.heap.size w w') (x : Option Nat) : w.grownBy w' x := ⟨hb.os, hb.tape, hb.output, hb.size, fun i hi _ => hb.block i hi⟩
theorem RQ.below (hb : Below w.heap.size w w') : RQ r (FB r V) w w' := ⟨gb_upQ hb _, fun h => FB.up h hb⟩
def qEq (r : Nat) (F : World → Prop) (u : Value) : Ty (RQ r F) := ⟨fun v _ => v = u, fun _ _ _ _ h => h⟩
def qPut (r : Nat) (F : World → Prop) : Ty (RQ r F) := ⟨fun _ w => F w, fun _ _ _ hR h => hR.2 h⟩
set_option maxHeartbeats 400000 in
theorem q5_put (h : EX5 r w) (v0 v1 v2 v3 v4 : Value) :
    RQ r (FB r #[v0, v1, v2, v3, v4]) w (((((w.setCell ⟨r, 0, none⟩ v0).setCell ⟨r, 1, none⟩ v1).setCell ⟨r, 2, none⟩ v2).setCell ⟨r, 3, none⟩ v3).setCell ⟨r, 4, none⟩ v4) ∧
    EX5 r (((((w.setCell ⟨r, 0, none⟩ v0).setCell ⟨r, 1, none⟩ v1).setCell ⟨r, 2, none⟩ v2).setCell ⟨r, 3, none⟩ v3).setCell ⟨r, 4, none⟩ v4) ∧
    FB r #[v0, v1, v2, v3, v4] (((((w.setCell ⟨r, 0, none⟩ v0).setCell ⟨r, 1, none⟩ v1).setCell ⟨r, 2, none⟩ v2).setCell ⟨r, 3, none⟩ v3).setCell ⟨r, 4, none⟩ v4) := by
  obtain ⟨⟨u0, u1, u2, u3, u4, hI⟩, hz⟩ := h
  have hI5 : Is (((((w.setCell ⟨r, 0, none⟩ v0).setCell ⟨r, 1, none⟩ v1).setCell ⟨r, 2, none⟩ v2).setCell ⟨r, 3, none⟩ v3).setCell ⟨r, 4, none⟩ v4) r #[v0, v1, v2, v3, v4] := is_all5 hI v0 v1 v2 v3 v4
  have hz5 : r < (((((w.setCell ⟨r, 0, none⟩ v0).setCell ⟨r, 1, none⟩ v1).setCell ⟨r, 2, none⟩ v2).setCell ⟨r, 3, none⟩ v3).setCell ⟨r, 4, none⟩ v4).heap.size := by simpa [World.setCell] using hz
  have g0 := gb_here (World.grownBy.refl w (some r)) (p := ⟨r, 0, none⟩) rfl v0
  have g1 := gb_here g0 (p := ⟨r, 1, none⟩) rfl v1
  have g2 := gb_here g1 (p := ⟨r, 2, none⟩) rfl v2
  have g3 := gb_here g2 (p := ⟨r, 3, none⟩) rfl v3
  have g4 := gb_here g3 (p := ⟨r, 4, none⟩) rfl v4
  generalize (((((w.setCell ⟨r, 0, none⟩ v0).setCell ⟨r, 1, none⟩ v1).setCell ⟨r, 2, none⟩ v2).setCell ⟨r, 3, none⟩ v3).setCell ⟨r, 4, none⟩ v4) = W at *
  exact ⟨⟨g4, fun _ => ⟨hI5, hz5⟩⟩, ⟨⟨_, _, _, _, _, hI5⟩, hz5⟩, hI5, hz5⟩
end

end Go.Proofs.YtbjlkdenkmbepaaGreatDoor
