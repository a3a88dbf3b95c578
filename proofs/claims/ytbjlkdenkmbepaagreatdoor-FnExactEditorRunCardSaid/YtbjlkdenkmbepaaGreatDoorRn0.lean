/- What is proved here: What is proved here: plain facts: what is replaced in a line, and what a command on lines does. What is proved here: plain facts: parts of valid texts are valid, what a command leads to is valid, and how the parts between slashes begin. What is proved here: the contract of the reference's l20Cut. No condition. -/
import Derived.Test.YtbjlkdenkmbepaaGreatDoorAc0
import Derived.Test.YtbjlkdenkmbepaaGreatDoorAc1
import Derived.Test.YtbjlkdenkmbepaaGreatDoorAc2
import Derived.Lib.Split
import Derived.Lib.Strings
import Derived.Test.YtbjlkdenkmbepaaGreatDoorBase
import Derived.BigQuiet
namespace Go.Proofs.YtbjlkdenkmbepaaGreatDoor
open Go.RowKit
set_option linter.unusedVariables false

/-- the places of t from p on, one behind the other. -/
def fps (s t : List UInt8) : Nat → Nat → List Nat
  | 0, p => []
  | n + 1, p => if fnx s t p = -1 then [] else (fnx s t p).toNat :: fps s t n ((fnx s t p).toNat + t.length)
def fpl (s t : List UInt8) : List Nat := fps s t (s.length + 1) 0
theorem fps_no {s t : List UInt8} {n p : Nat} (h : fnx s t p = -1) : fps s t n p = [] := by
  cases n with
  | zero => rfl
  | succ n => rw [fps, if_pos h]
theorem fps_yes {s t : List UInt8} {n p k : Nat} (h : fnx s t p = (k : Nat)) : fps s t (n + 1) p = k :: fps s t n (k + t.length) := by
  rw [fps, h, if_neg (by omega), Int.toNat_natCast]
/-- places of t that ascend without overlaps. -/
def Fp (s t : List UInt8) : Nat → List Nat → Prop
  | _, [] => True
  | a, p :: ps => a ≤ p ∧ p + t.length ≤ s.length ∧ Fp s t (p + t.length) ps
theorem fps_fp (s t : List UInt8) : ∀ (n p : Nat), Fp s t p (fps s t n p)
  | 0, p => trivial
  | n + 1, p => by
    rcases fnx_room (s.length - p) p s t (Nat.le_refl _) with h | ⟨k, h, h1, h2, _⟩
    · rw [fps_no h]; trivial
    · rw [fps_yes h]
      exact ⟨h1, h2, fps_fp s t n _⟩
theorem fps_len (s t : List UInt8) : ∀ (n p : Nat), p ≤ s.length → (fps s t n p).length + p ≤ s.length
  | 0, p, h => by simpa [fps] using h
  | n + 1, p, h => by
    rcases fnx_room (s.length - p) p s t (Nat.le_refl _) with h1 | ⟨k, h1, h2, h3, h4⟩
    · rw [fps_no h1]; simpa using h
    · rw [fps_yes h1, List.length_cons]
      have := fps_len s t n (k + t.length) h3
      omega
/-- a text in which what stands at places is replaced. -/
def rpl (s t u : List UInt8) : Nat → List Nat → List UInt8
  | a, [] => s.drop a
  | a, p :: ps => (s.take p).drop a ++ (u ++ rpl s t u (p + t.length) ps)
def rpT (t u s : List UInt8) : List UInt8 := rpl s t u 0 (fpl s t)
theorem rpl_len (s t u : List UInt8) : ∀ (l : List Nat) (a : Nat), (rpl s t u a l).length ≤ s.length * (l.length + 1) + l.length * u.length
  | [], a => by simp [rpl]
  | p :: ps, a => by
    have ih := rpl_len s t u ps (p + t.length)
    rw [rpl, List.length_append, List.length_append, List.length_cons, List.length_drop, List.length_take]
    have e1 : s.length * (ps.length + 1 + 1) = s.length * (ps.length + 1) + s.length := Nat.mul_succ _ _
    have e2 : (ps.length + 1) * u.length = ps.length * u.length + u.length := Nat.succ_mul _ _
    rw [e1, e2]
    omega
/-- a line without a space at its beginning. -/
def trm (l : List UInt8) : List UInt8 := if l.head? = some 32 then l.drop 1 else l
theorem trm_eq (l : List UInt8) : Lib.trimPrefix l [32] = trm l := by
  unfold Lib.trimPrefix Lib.hasPrefix trm
  cases l with
  | nil => rfl
  | cons c r =>
    by_cases h : c = 32
    · subst h; simp
    · have h2 : ¬ (32 = c) := fun e => h e.symm
      simp [h, h2]
/-- the parts of a text between slashes. -/
def psl (s : List UInt8) : List (List UInt8) := Lib.splitK [47] 0 (s.count 47) s
theorem idx47 : ∀ (s : List UInt8), (Lib.index s [47] = -1 ∧ s.count 47 = 0) ∨ ∃ i : Nat, Lib.index s [47] = i ∧ i < s.length ∧ s[i]? = some 47 ∧ s.count 47 = (s.drop (i + 1)).count 47 + 1 ∧ ∀ j : Nat, j < i → s[j]? ≠ some 47
  | [] => .inl ⟨rfl, rfl⟩
  | c :: r => by
    have hp : [(47 : UInt8)].isPrefixOf (c :: r) = (47 == c) := by simp [List.isPrefixOf]
    by_cases h : c = 47
    · subst h
      refine .inr ⟨0, ?_, by simp, rfl, by simp, fun j hj => by omega⟩
      rw [Lib.index, hp]; rfl
    · have h2 : (47 == c) = false := by simpa using fun e => h e.symm
      have hc : (c :: r).count 47 = r.count 47 := List.count_cons_of_ne (fun e => h e)
      rw [Lib.index, hp, h2, hc]
      rcases idx47 r with ⟨h3, h4⟩ | ⟨i, h3, h4, h5, h6, h7⟩
      · exact .inl ⟨by rw [h3]; rfl, h4⟩
      · refine .inr ⟨i + 1, ?_, by simp; omega, by simpa using h5, by simpa using h6, fun j hj => ?_⟩
        · rw [h3]
          have : ((i : Int) == -1) = false := by rw [beq_eq_false_iff_ne]; omega
          simp [this]
        · cases j with
          | zero => simpa using h
          | succ j => simpa using h7 j (by omega)
/-- the first slash of a text. -/
theorem psl_no {s : List UInt8} (h : ∀ j : Nat, s[j]? ≠ some 47) : psl s = [s] := by
  rcases idx47 s with ⟨_, h2⟩ | ⟨i, _, _, h2, _⟩
  · unfold psl; rw [h2]; rfl
  · exact absurd h2 (h i)
theorem psl_yes {s : List UInt8} {i : Nat} (h : s[i]? = some 47) (hn : ∀ j : Nat, j < i → s[j]? ≠ some 47) : psl s = s.take i :: psl (s.drop (i + 1)) := by
  rcases idx47 s with ⟨_, h2⟩ | ⟨k, h1, h2, h3, h4, h5⟩
  · exact absurd (List.mem_of_getElem? h) (by rw [← List.count_pos_iff]; omega)
  · have e : k = i := by
      rcases Nat.lt_trichotomy k i with h6 | h6 | h6
      · exact absurd h3 (hn k h6)
      · exact h6
      · exact absurd h (h5 i h6)
    subst e
    unfold psl
    rw [h4, Lib.splitK, if_neg (by rw [h1]; simp), h1]
    simp
theorem psl_ne (s : List UInt8) : psl s ≠ [] := by
  unfold psl
  generalize s.count 47 = n
  cases n with
  | zero => simp [Lib.splitK]
  | succ n =>
    rw [Lib.splitK]
    split <;> simp
/-- what a command does to lines. -/
inductive Cm where
  | no
  | del
  | cpy (n : Nat)
  | each (f : List UInt8 → List UInt8)
def cmS (r : List UInt8) : Cm := match psl r with
  | [h, w, u, t] => if h = [115] ∧ w ≠ [] ∧ t = [] then .each (rpT w u) else .no
  | _ => .no
def cmOf (r : List UInt8) : Cm :=
  if r = [100] then .del
  else if r.head? = some 116 then (match num (r.drop 1) with
    | some (a, k) => if k = (r.drop 1).length then .cpy a else .no
    | none => .no)
  else if r = [62] then .each fun l => 32 :: l
  else if r = [60] then .each trm
  else cmS r
/-- the text after a command on the lines f, .., t. -/
def cmDo (s : List UInt8) (f t : Nat) : Cm → Option (List UInt8)
  | .no => none
  | .del => some (jn (cutL s f (t - f + 1)))
  | .cpy n => if n ≤ nl s + 1 ∧ s.length + 1 + ((s.take (lend s t)).drop (lst s f)).length ≤ 120 then some (jn (putL s n ((s.take (lend s t)).drop (lst s f)))) else none
  | .each g => if tv (jn (mapTo g f (t + 1) (lns s))) = true then some (jn (mapTo g f (t + 1) (lns s))) else none
/-- RunLine: the text after a command, if it is done. -/
def rnL (s c : List UInt8) : Option (List UInt8) := match rng c (nl s + 1) with
  | none => none
  | some (f, t, k) => cmDo s f t (cmOf (c.drop k))

end Go.Proofs.YtbjlkdenkmbepaaGreatDoor

namespace Go.Proofs.YtbjlkdenkmbepaaGreatDoor
open Go.RowKit
set_option linter.unusedVariables false

/-- what a command gives: the text, if there is one. -/
def RnOk (o : Option (List UInt8)) (z : List UInt8) (ok : Bool) : Prop := (∀ y, o = some y → z = y ∧ ok = true) ∧ (o = none → ok = false)
def RunPost (o : Option (List UInt8)) (w : World) (e : Ending) (w' : World) : Prop := ∃ (z : List UInt8) (ok : Bool), e = .returned (.tuple #[S z, .bool ok]) ∧ RnOk o z ok ∧ Below w.heap.size w w'
/-- what RunLine gives. -/
def RlPost (s : List UInt8) (o : Option (List UInt8)) (w : World) (e : Ending) (w' : World) : Prop := e = .returned (.tuple #[S (o.getD s), .bool o.isSome]) ∧ Below w.heap.size w w'
def subL (s : List UInt8) (f t : Nat) : List UInt8 := (s.take (lend s t)).drop (lst s f)
theorem jn_subL (s : List UInt8) (f t : Nat) (h : f ≤ t) (ht : t ≤ nl s) : jn (((lns s).take (t + 1)).drop f) = subL s f t := by
  obtain ⟨d, rfl⟩ : ∃ d, t = f + d := ⟨t - f, by omega⟩
  exact jn_sub s d f ht
theorem tv_drop {s : List UInt8} (h : tv s = true) (k : Nat) : tv (s.drop k) = true := by
  have hl := tv_len h
  simp only [tv, Bool.and_eq_true] at h ⊢
  refine ⟨?_, by simp; omega⟩
  rw [List.all_eq_true] at *
  exact fun x hx => h.1 x (List.mem_of_mem_drop hx)
theorem tv_take2 {s : List UInt8} (h : tv s = true) (k : Nat) : tv (s.take k) = true := by
  have hl := tv_len h
  simp only [tv, Bool.and_eq_true] at h ⊢
  refine ⟨?_, by simp; omega⟩
  rw [List.all_eq_true] at *
  exact fun x hx => h.1 x (List.mem_of_mem_take hx)
theorem subL_tv {s : List UInt8} (f t : Nat) (h : tv s = true) : tv (subL s f t) = true := tv_drop (tv_take2 h _) _
/-- what copied leads to. -/
def cpyO (s : List UInt8) (f t : Nat) (r : List UInt8) : Option (List UInt8) := match num r with
  | some (a, k) => if k = r.length then cmDo s f t (.cpy a) else none
  | none => none
theorem cm_cpy (s : List UInt8) (f t : Nat) (r : List UInt8) : cmDo s f t (cmOf (116 :: r)) = cpyO s f t r := by
  have h1 : (116 :: r : List UInt8) ≠ [100] := by simp
  unfold cmOf cpyO
  rw [if_neg h1, if_pos (show (116 :: r : List UInt8).head? = some 116 from rfl)]
  show cmDo s f t (match num r with | some (a, k) => if k = r.length then .cpy a else .no | none => .no) = _
  cases num r with
  | none => rfl
  | some p =>
    obtain ⟨a, k⟩ := p
    simp only
    split <;> rfl
theorem cutL_tv {s : List UInt8} (f m : Nat) (hs : tv s = true) : tv (jn (cutL s f m)) = true := by
  have h1 := cutL_len s f m hs
  simp only [tv, Bool.and_eq_true]
  refine ⟨?_, by simpa using h1⟩
  rw [jn_all, List.all_eq_true]
  intro x hx
  have h2 := (lns_mem (cutL_mem hx)).2 hs
  simp only [tv, Bool.and_eq_true] at h2
  exact h2.1
theorem cmDo_tv {s y : List UInt8} {f t : Nat} {k : Cm} (hs : tv s = true) (h : cmDo s f t k = some y) : tv y = true := by
  cases k with
  | no => cases h
  | del =>
    simp only [cmDo, Option.some.injEq] at h
    rw [← h]
    exact cutL_tv _ _ hs
  | cpy n =>
    simp only [cmDo] at h
    split at h
    · rename_i hc
      simp only [Option.some.injEq] at h
      rw [← h]
      show tv (jn (putL s n (subL s f t))) = true
      rw [putL_tv hs (subL_tv f t hs)]
      exact decide_eq_true hc.2
    · cases h
  | each g =>
    simp only [cmDo] at h
    split at h
    · rename_i hc
      simp only [Option.some.injEq] at h
      rw [← h]
      exact hc
    · cases h
theorem rnL_tv {s c y : List UInt8} (hs : tv s = true) (h : rnL s c = some y) : tv y = true := by
  unfold rnL at h
  split at h
  · cases h
  · exact cmDo_tv hs h

/-- the text ahead of the first slash, and whether there is one. -/
def slA (s : List UInt8) : List UInt8 := s.takeWhile (fun c => c != 47)
def slH (s : List UInt8) : Bool := s.contains 47
def slR (s : List UInt8) : List UInt8 := if slH s = true then s.drop ((slA s).length + 1) else []
theorem slA_le (s : List UInt8) : (slA s).length ≤ s.length := (List.takeWhile_sublist (l := s) _).length_le
theorem slR_le (s : List UInt8) : (slR s).length ≤ s.length := by
  unfold slR
  split <;> simp
theorem sl_at : ∀ (s : List UInt8) (k : Nat), s[k]? = some 47 → (∀ j : Nat, j < k → s[j]? ≠ some 47) → slA s = s.take k ∧ slH s = true
  | [], k, h, _ => by simp at h
  | c :: r, 0, h, _ => by
    have hc : c = 47 := by simpa using h
    subst hc
    exact ⟨by simp [slA], by simp [slH]⟩
  | c :: r, k + 1, h, hn => by
    have hc : c ≠ 47 := by simpa using hn 0 (by omega)
    obtain ⟨h1, h2⟩ := sl_at r k (by simpa using h) (fun j hj => by simpa using hn (j + 1) (by omega))
    unfold slA at h1 ⊢
    unfold slH at h2 ⊢
    exact ⟨by simp [hc, h1], by simp at h2; simp [h2]⟩
theorem sl_none : ∀ (s : List UInt8), (∀ j : Nat, s[j]? ≠ some 47) → slA s = s ∧ slH s = false
  | [], _ => ⟨rfl, rfl⟩
  | c :: r, hn => by
    have hc : c ≠ 47 := by simpa using hn 0
    obtain ⟨h1, h2⟩ := sl_none r (fun j => by simpa using hn (j + 1))
    unfold slA at h1 ⊢
    unfold slH at h2 ⊢
    refine ⟨by simp [hc, h1], ?_⟩
    rw [List.contains_cons, h2]
    simp
    exact fun e => hc e.symm
theorem sl_cases (s : List UInt8) : (slH s = false ∧ slA s = s ∧ slR s = [] ∧ psl s = [s]) ∨ (slH s = true ∧ psl s = slA s :: psl (slR s)) := by
  rcases idx47 s with ⟨_, h2⟩ | ⟨i, _, _, h3, _, h5⟩
  · have hn : ∀ j : Nat, s[j]? ≠ some 47 := fun j e => by
      have := List.count_pos_iff.2 (List.mem_of_getElem? e)
      omega
    obtain ⟨a, b⟩ := sl_none s hn
    exact .inl ⟨b, a, by unfold slR; rw [b]; rfl, psl_no hn⟩
  · obtain ⟨a, b⟩ := sl_at s i h3 h5
    refine .inr ⟨b, ?_⟩
    have hi : i < s.length := by
      rcases Nat.lt_or_ge i s.length with h | h
      · exact h
      · rw [List.getElem?_eq_none h] at h3; cases h3
    unfold slR
    rw [b, if_pos rfl, psl_yes h3 h5, a]
    simp
    rw [Nat.min_eq_left (by omega)]
theorem psl_one {s x : List UInt8} (h : psl s = [x]) : slH s = false ∧ x = s := by
  rcases sl_cases s with ⟨h1, _, _, h4⟩ | ⟨_, h2⟩
  · rw [h4] at h
    injection h with h
    exact ⟨h1, h.symm⟩
  · rw [h2] at h
    injection h with _ h
    exact absurd h (psl_ne _)
/-- a command that replaces. -/
theorem cmS_yes {r t : List UInt8} (hr : r = 115 :: 47 :: t) (h1 : slH t = true) (h2 : slH (slR t) = true) (h3 : slR (slR t) = []) (h4 : slA t ≠ []) : cmS r = .each (rpT (slA t) (slA (slR t))) := by
  have e0 : psl r = [115] :: psl t := by
    have := psl_yes (s := r) (i := 1) (by rw [hr]; rfl) (fun j hj => by
      obtain rfl : j = 0 := by omega
      rw [hr]; simp)
    rw [this, hr]
    rfl
  rcases sl_cases t with ⟨g, _⟩ | ⟨_, e1⟩
  · rw [h1] at g; cases g
  rcases sl_cases (slR t) with ⟨g, _⟩ | ⟨_, e2⟩
  · rw [h2] at g; cases g
  unfold cmS
  rw [e0, e1, e2, h3]
  show (if [115] = [115] ∧ slA t ≠ [] ∧ ([] : List UInt8) = [] then Cm.each (rpT (slA t) (slA (slR t))) else Cm.no) = _
  rw [if_pos ⟨rfl, h4, rfl⟩]
theorem cmS_parts {r : List UInt8} {f : List UInt8 → List UInt8} (h : cmS r ≠ .no) : ∃ t, r = 115 :: 47 :: t ∧ slH t = true ∧ slH (slR t) = true ∧ slR (slR t) = [] ∧ slA t ≠ [] := by
  unfold cmS at h
  split at h
  · rename_i a b c d hp
    split at h
    · rename_i hc
      obtain ⟨rfl, hb, rfl⟩ := hc
      rcases sl_cases r with ⟨_, _, _, e⟩ | ⟨hr, e⟩
      · rw [e] at hp; cases hp
      rw [hp] at e
      injection e with e1 e2
      rcases sl_cases (slR r) with ⟨_, _, _, e⟩ | ⟨h1, e⟩
      · rw [e] at e2; cases e2
      rw [e] at e2
      injection e2 with e3 e4
      rcases sl_cases (slR (slR r)) with ⟨_, _, _, e⟩ | ⟨h2, e5⟩
      · rw [e] at e4; cases e4
      rw [e5] at e4
      injection e4 with e6 e7
      obtain ⟨_, e8⟩ := psl_one e7.symm
      refine ⟨slR r, ?_, h1, h2, e8.symm, by rw [← e3]; exact hb⟩
      have hx : slR r = r.drop 2 := by unfold slR; rw [hr, if_pos rfl, ← e1]; rfl
      rw [hx]
      unfold slA at e1
      cases r with
      | nil => cases e1
      | cons x r =>
        by_cases hx7 : x = 47
        · subst hx7; simp at e1
        rw [List.takeWhile_cons_of_pos (by simpa using hx7)] at e1
        injection e1 with e1 e9
        subst e1
        cases r with
        | nil => unfold slH at hr; simp at hr
        | cons y r =>
          by_cases hy7 : y = 47
          · subst hy7; rfl
          · rw [List.takeWhile_cons_of_pos (by simpa using hy7)] at e9; cases e9
    · exact absurd rfl h
  · exact absurd rfl h
theorem cmS_no {r : List UInt8} (h : ∀ t, r = 115 :: 47 :: t → ¬ (slH t = true ∧ slH (slR t) = true ∧ slR (slR t) = [] ∧ slA t ≠ [])) : cmS r = .no := by
  rcases hc : cmS r with _ | _ | n | g
  · rfl
  all_goals
    obtain ⟨t, h0, h1, h2, h3, h4⟩ := cmS_parts (r := r) (f := id) (by rw [hc]; intro e; cases e)
    exact absurd ⟨h1, h2, h3, h4⟩ (h t h0)

end Go.Proofs.YtbjlkdenkmbepaaGreatDoor

namespace Go.Proofs.YtbjlkdenkmbepaaGreatDoor
open Go.RowKit
set_option linter.unusedVariables false

theorem slR_at {s : List UInt8} {k : Nat} (hk : k < s.length) (h : slA s = s.take k ∧ slH s = true) : slR s = s.drop (k + 1) := by
  unfold slR
  rw [if_pos h.2, h.1, List.length_take, Nat.min_eq_left (by omega)]
set_option maxRecDepth 100000 in
set_option maxHeartbeats 1000000 in
theorem l20Cut_any (s : List UInt8) (w : World) (hs : s.length ≤ 1048576) :
    Calls Tryz.prog 101 #[S s] w fun e w' => e = .returned (.tuple #[S (slA s), S (slR s), .bool (slH s)]) ∧ Below w.heap.size w w' := by
  have HA := Lib.hid (fun k (hk : k < s.length) (h1 : s[k]? = some 47) (h2 : ∀ j : Nat, j < k → s[j]? ≠ some 47) => (show slA s = s.take k ∧ slR s = s.drop (k + 1) ∧ slH s = true from
    ⟨(sl_at s k h1 h2).1, slR_at hk (sl_at s k h1 h2), (sl_at s k h1 h2).2⟩))
  have HN := Lib.hid (fun (h : ∀ j : Nat, s[j]? ≠ some 47) => (show slA s = s ∧ slR s = [] ∧ slH s = false from
    ⟨(sl_none s h).1, by unfold slR; rw [(sl_none s h).2]; rfl, (sl_none s h).2⟩))
  generalize slA s = a at *
  generalize slR s = r at *
  generalize slH s = t at *
  go_enter Tryz.func101, Tryz.ntmps101
  go_wp2_with fail
  go_loop [5] (fun i => ∃ k : Nat, k ≤ s.length ∧ i = .int .i64 k ∧ Hid (∀ j : Nat, j < k → s[j]? ≠ some 47)) (fun i => s.length - (intOf i).toNat)
  case atStart => exact ⟨0, Nat.zero_le _, rfl, Lib.hid (fun j h => by omega)⟩
  case round =>
    obtain ⟨k, hk, rfl, HK⟩ := hrel
    have i0 : (0 : Int) ≤ (k : Int) := by omega
    by_cases hlt : k < s.length
    · have i2 : (k : Int) < (s.length : Int) := by omega
      have i3 : (k : Int) ≤ (s.length : Int) := by omega
      have i4 : (k : Int) + 1 ≤ (s.length : Int) := by omega
      have i5 : (0 : Int) ≤ (k : Int) + 1 := by omega
      have e1 : ((k : Int) + 1).toNat = k + 1 := by omega
      have e2 : IntKind.i64.wrap ((k : Int) + 1) = (k : Int) + 1 := by rw [IntWalk.i64_in _ (by omega)]
      by_cases hc : s[k] = 47
      · obtain ⟨rfl, rfl, rfl⟩ := HA.out k hlt (by rw [List.getElem?_eq_getElem hlt, hc]) HK.out
        have c1 : (((s[k]).toNat : Int) == 47) = true := by rw [hc]; rfl
        clear hc HA HN HK
        go_wp2_with fail
        go_quiet (fail)
        go_wp2_with fail
        go_ret3
        exact ⟨rfl, up_drewN (Below.refl _ _) _⟩
      · have HK2 := Lib.hid (show ∀ j : Nat, j < k + 1 → s[j]? ≠ some 47 from fun j hj => by
          by_cases he : j = k
          · subst he; rw [List.getElem?_eq_getElem hlt]; simpa using hc
          · exact HK.out j (by omega))
        have c1 : (((s[k]).toNat : Int) == 47) = false := by
          rw [beq_eq_false_iff_ne]
          intro e
          exact hc (UInt8.toNat_inj.1 (show (s[k]).toNat = (47 : UInt8).toNat by show _ = 47; omega))
        clear hc HK
        go_wp2_with fail
        go_round
        case rel => exact ⟨k + 1, by omega, by go_num, HK2⟩
        case measure => simp [intOf]; omega
    · obtain rfl : k = s.length := by omega
      have i2 : ¬ (s.length : Int) < (s.length : Int) := by omega
      obtain ⟨rfl, rfl, rfl⟩ := HN.out fun j => by
        rcases Nat.lt_or_ge j s.length with h | h
        · exact HK.out j h
        · rw [List.getElem?_eq_none h]; simp
      clear HK HA HN
      go_wp2_with fail
      go_ret3
      exact ⟨rfl, Below.refl _ _⟩

end Go.Proofs.YtbjlkdenkmbepaaGreatDoor
