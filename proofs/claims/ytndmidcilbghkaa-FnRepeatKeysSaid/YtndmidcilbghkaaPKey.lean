/- What is proved here: plain laws of desks and keys. No condition. -/
import Derived.Test.YtndmidcilbghkaaKey9
namespace Go.Proofs.Ytndmidcilbghkaa
open Go.RowKit

theorem pressF_shift (l : List UInt8) : ∀ (r : Dk × Nat), l.foldl pressF r = ((l.foldl pressF (r.1, 0)).1, r.2 + (l.foldl pressF (r.1, 0)).2) := by
  induction l with
  | nil => intro r; rfl
  | cons c l ih =>
    intro r
    rw [List.foldl_cons, List.foldl_cons, ih (pressF r c), ih (pressF (r.1, 0) c)]
    show (_, _) = (_, _)
    unfold pressF
    simp [Nat.add_assoc]
theorem pressesK_app (d : Dk) (a b : List UInt8) : pressesK d (a ++ b) = ((pressesK (pressesK d a).1 b).1, (pressesK d a).2 + (pressesK (pressesK d a).1 b).2) := by
  unfold pressesK
  rw [List.foldl_append, pressF_shift b]
theorem sideK_body (d : Dk) (b : Int) : (sideK d b).1.body = d.body := by
  unfold sideK; split <;> rfl
theorem upK_body (d : Dk) (b : Int) : (upK d b).1.body = d.body := by
  unfold upK; split <;> rfl
theorem sideK_no {d : Dk} {b : Int} (h : (sideK d b).2 = false) : (sideK d b).1 = d := by
  unfold sideK at h ⊢; split at h
  · cases h
  · rename_i hn; rw [if_neg hn]
theorem upK_no {d : Dk} {b : Int} (h : (upK d b).2 = false) : (upK d b).1 = d := by
  unfold upK at h ⊢; split at h
  · cases h
  · rename_i hn; rw [if_neg hn]
theorem chgK_no {d : Dk} {a c : Int} {p : List UInt8} (h : (chgK d a c p).2 = false) : (chgK d a c p).1 = d := by
  unfold chgK at h ⊢; split at h
  · cases h
  · rename_i hn; rw [if_neg hn]
theorem keyK_no {d : Dk} {c : Int} (h : (keyK d c).2 = false) : (keyK d c).1 = d := by
  unfold keyK at h ⊢
  split at h
  · rename_i e; rw [if_pos e]; exact sideK_no h
  rename_i e1; rw [if_neg e1]
  split at h
  · rename_i e; rw [if_pos e]; exact sideK_no h
  rename_i e2; rw [if_neg e2]
  split at h
  · rename_i e; rw [if_pos e]; exact upK_no h
  rename_i e3; rw [if_neg e3]
  split at h
  · rename_i e; rw [if_pos e]; exact upK_no h
  rename_i e4; rw [if_neg e4]
  split at h
  · rename_i e; rw [if_pos e]; exact chgK_no h
  rename_i e5; rw [if_neg e5]
  split at h
  · rename_i e; rw [if_pos e]; exact chgK_no h
  rename_i e6; rw [if_neg e6]
  split at h
  · rename_i e; rw [if_pos e]
  rename_i e7; rw [if_neg e7]
  exact chgK_no h
/-- the put byte is cut out again. -/
theorem put_back {d : Dk} (hd : dkOk d = true) {c : UInt8} (h : (chgK d d.place 0 [c]).2 = true) :
    (chgK d d.place 0 [c]).1.body.length = d.body.length + 1 ∧ (chgK (chgK d d.place 0 [c]).1 ((chgK d d.place 0 [c]).1.place - 1) 1 []).2 = true ∧
    (chgK (chgK d d.place 0 [c]).1 ((chgK d d.place 0 [c]).1.place - 1) 1 []).1.body = d.body ∧ (chgK (chgK d d.place 0 [c]).1 ((chgK d d.place 0 [c]).1.place - 1) 1 []).1.place = d.place := by
  have hx := chgK_ok hd d.place 0 [c]
  obtain ⟨s, p, x⟩ := d
  have ho := dkOk_out hd
  simp only at ho h hx ⊢
  obtain ⟨n, rfl⟩ : ∃ n : Nat, p = n := ⟨p.toNat, by omega⟩
  have hk : chOk s n 0 [c] = true := by
    unfold chgK at h
    split at h
    · assumption
    · cases h
  rw [put_eq hk] at hx ⊢
  simp only [dkAt] at hx ⊢
  have ht : chTo s n 0 [c] = s.take n ++ c :: s.drop n := by unfold chTo; simp
  rw [ht] at hx ⊢
  have hcut := cut_eq (s := s.take n ++ c :: s.drop n) (n := n + 1) (x := colOf (s.take n ++ c :: s.drop n) (n + 1)) hx (by omega)
  rw [hcut]
  have hn : n ≤ s.length := by omega
  have e1 : (s.take n ++ c :: s.drop n).take (n + 1 - 1) ++ (s.take n ++ c :: s.drop n).drop (n + 1) = s := by
    rw [Nat.add_sub_cancel, List.take_append, List.drop_append, List.length_take, Nat.min_eq_left hn, List.take_take, Nat.min_self, Nat.sub_self, List.take_zero, List.append_nil, Nat.add_sub_cancel_left, List.drop_succ_cons, List.drop_zero, List.drop_of_length_le (by rw [List.length_take]; omega), List.nil_append, List.take_append_drop]
  rw [e1]
  refine ⟨by simp [Nat.min_eq_left hn]; omega, rfl, rfl, by simp [dkAt]⟩
theorem cut_less {d : Dk} (h : (chgK d (d.place - 1) 1 []).2 = true) : (chgK d (d.place - 1) 1 []).1.body.length + 1 = d.body.length := by
  unfold chgK at h ⊢
  split at h
  · rename_i hk
    rw [if_pos hk]
    have hk2 := hk
    unfold chOk at hk2
    simp only [Bool.and_eq_true] at hk2
    have hl := chTo_len (p := []) hk2.1.1.2
    have hi := chIn_out hk2.1.1.2
    simp only [dkAt]
    simp at hl
    omega
  · cases h
theorem press_law (d : Dk) (c : Int) : ((pressK d c).2 = false ∧ ((pressK d c).1 = dk0 ∨ (pressK d c).1 = d)) ∨
    ((pressK d c).2 = true ∧ dkOk (pressK d c).1 = true ∧ (((pressK d c).1.body = d.body) ∨ ((pressK d c).1.body.length + 1 = d.body.length) ∨
      ((pressK d c).1.body.length = d.body.length + 1 ∧ (pressK (pressK d c).1 35).2 = true ∧ (pressK (pressK d c).1 35).1.body = d.body ∧ (pressK (pressK d c).1 35).1.place = d.place))) := by
  by_cases hd : dkOk d = true
  · have e : pressK d c = keyK d c := by unfold pressK; rw [if_pos hd]
    rw [e]
    have hx := keyK_ok hd c
    rcases hk : (keyK d c).2 with _ | _
    · exact .inl ⟨rfl, .inr (keyK_no hk)⟩
    · refine .inr ⟨rfl, hx, ?_⟩
      have e35 : pressK (keyK d c).1 35 = chgK (keyK d c).1 ((keyK d c).1.place - 1) 1 [] := by unfold pressK; rw [if_pos hx]; rfl
      rw [e35]
      clear e35 e hx
      unfold keyK at hk ⊢
      by_cases e1 : c = 60
      · rw [if_pos e1]; exact .inl (sideK_body _ _)
      rw [if_neg e1] at hk ⊢
      by_cases e2 : c = 62
      · rw [if_pos e2]; exact .inl (sideK_body _ _)
      rw [if_neg e2] at hk ⊢
      by_cases e3 : c = 94
      · rw [if_pos e3]; exact .inl (upK_body _ _)
      rw [if_neg e3] at hk ⊢
      by_cases e4 : c = 95
      · rw [if_pos e4]; exact .inl (upK_body _ _)
      rw [if_neg e4] at hk ⊢
      by_cases e5 : c = 35
      · rw [if_pos e5] at hk ⊢; exact .inr (.inl (cut_less hk))
      rw [if_neg e5] at hk ⊢
      by_cases e6 : c = 64
      · rw [if_pos e6] at hk ⊢; exact .inr (.inr (put_back hd hk))
      rw [if_neg e6] at hk ⊢
      by_cases e7 : c = 10
      · rw [if_pos e7] at hk; cases hk
      rw [if_neg e7] at hk ⊢
      exact .inr (.inr (put_back hd hk))
  · have e : pressK d c = (dk0, false) := by unfold pressK; rw [if_neg hd]
    rw [e]
    exact .inl ⟨rfl, .inl rfl⟩
theorem two_keys (d : Dk) (a b : UInt8) : pressesK d [a, b] = ((pressK (pressK d a.toNat).1 b.toNat).1, (if (pressK d a.toNat).2 = true then 1 else 0) + if (pressK (pressK d a.toNat).1 b.toNat).2 = true then 1 else 0) := by
  unfold pressesK
  simp [pressF]
theorem side_back {d : Dk} (hd : dkOk d = true) (b : Int) (h1 : (sideK d b).2 = true) (h2 : (sideK (sideK d b).1 (-b)).2 = true) : (sideK (sideK d b).1 (-b)).1.place = d.place ∧ (sideK (sideK d b).1 (-b)).1.body = d.body := by
  have ho := dkOk_out hd
  refine ⟨?_, by rw [sideK_body, sideK_body]⟩
  have e1 : (sideK d b).1.place = d.place + b := by
    unfold sideK at h1 ⊢
    split at h1
    · rename_i hi
      have := inB_iff.1 hi
      rw [if_pos hi]
      simp only [dkAt]
      omega
    · cases h1
  generalize sideK d b = r at *
  unfold sideK at h2 ⊢
  split at h2
  · rename_i hi
    have := inB_iff.1 hi
    rw [if_pos hi]
    simp only [dkAt]
    omega
  · cases h2
theorem keys_back {d : Dk} (hd : dkOk d = true) (a b : UInt8) (hab : (a = 60 ∧ b = 62) ∨ (a = 62 ∧ b = 60)) : (pressesK d [a, b]).2 < 2 ∨ ((pressesK d [a, b]).1.place = d.place ∧ (pressesK d [a, b]).1.body = d.body) := by
  rw [two_keys]
  rcases hab with ⟨rfl, rfl⟩ | ⟨rfl, rfl⟩
  · have e1 : pressK d (60 : UInt8).toNat = sideK d (-1) := by unfold pressK; rw [if_pos hd]; rfl
    have hx : dkOk (sideK d (-1)).1 = true := by have := keyK_ok hd 60; exact this
    have e2 : pressK (sideK d (-1)).1 (62 : UInt8).toNat = sideK (sideK d (-1)).1 1 := by unfold pressK; rw [if_pos hx]; rfl
    rw [e1, e2]
    rcases h1 : (sideK d (-1)).2 with _ | _
    · left; simp only [Bool.false_eq_true, if_false]; split <;> omega
    · rcases h2 : (sideK (sideK d (-1)).1 1).2 with _ | _
      · left; simp
      · right; exact side_back hd (-1) h1 h2
  · have e1 : pressK d (62 : UInt8).toNat = sideK d 1 := by unfold pressK; rw [if_pos hd]; rfl
    have hx : dkOk (sideK d 1).1 = true := by have := keyK_ok hd 62; exact this
    have e2 : pressK (sideK d 1).1 (60 : UInt8).toNat = sideK (sideK d 1).1 (-1) := by unfold pressK; rw [if_pos hx]; rfl
    rw [e1, e2]
    rcases h1 : (sideK d 1).2 with _ | _
    · left; simp only [Bool.false_eq_true, if_false]; split <;> omega
    · rcases h2 : (sideK (sideK d 1).1 (-1)).2 with _ | _
      · left; simp
      · right; exact side_back hd 1 h1 h2
/-- n times. -/
def iterK (l : List UInt8) : Nat → Dk → Dk
  | 0, d => d
  | n + 1, d => (pressesK (iterK l n d) l).1
theorem iterK_first (l : List UInt8) (n : Nat) (d : Dk) : iterK l (n + 1) d = iterK l n (pressesK d l).1 := by
  induction n with
  | zero => rfl
  | succ n ih =>
    show (pressesK (iterK l (n + 1) d) l).1 = _
    rw [ih]; rfl
theorem iterK_ok {l : List UInt8} {d : Dk} (h : dkOk d = true) (n : Nat) : dkOk (iterK l n d) = true := by
  induction n with
  | zero => exact h
  | succ n ih => exact pressesK_ok ih l
theorem repK_iter (l : List UInt8) : ∀ (f : Nat) (d : Dk) (k : Nat), ∃ n, (repK l f d k).2 = k + n ∧ n ≤ f ∧ (0 < f → 0 < n) ∧ (repK l f d k).1 = iterK l n d
  | 0, d, k => ⟨0, rfl, Nat.le_refl _, fun h => h, rfl⟩
  | f + 1, d, k => by
    unfold repK
    split
    · exact ⟨1, rfl, by omega, fun _ => by omega, rfl⟩
    · obtain ⟨n, h1, h2, _, h3⟩ := repK_iter l f (pressesK d l).1 (k + 1)
      exact ⟨n + 1, by omega, by omega, fun _ => by omega, by rw [h3, iterK_first]⟩
theorem repK_one (l : List UInt8) (d : Dk) : repK l 1 d 0 = ((pressesK d l).1, 1) := by
  unfold repK
  split
  · rfl
  · rfl

end Go.Proofs.Ytndmidcilbghkaa
