/- What is proved here: What is proved here: the contract of markText. What is proved here: What is proved here: plain facts on how a record's bytes are read, and on records that lack their last byte. What is proved here: plain facts on records that are played. What is proved here: plain facts on the records of a history. What is proved here: plain facts on how a number of a record is read, digit by digit. What is proved here: plain facts: which change the parts of a text lead to. What is proved here: What is proved here: contracts of the reference's numbers and sums, and of the program's sums. What is proved here: the contract of the reference's l22Value. What is proved here: the contract of the reference's RecordText. No condition. -/
import Derived.Test.YtbjlkdenkmbepaaGreatDoorBase
import Derived.Test.YtbjlkdenkmbepaaGreatDoorAc1
import Derived.Test.YtbjlkdenkmbepaaGreatDoorAc0
namespace Go.Proofs.YtbjlkdenkmbepaaGreatDoor
open Go.RowKit

/-- a digit. -/
def dg (q : Nat) : UInt8 := UInt8.ofNat (48 + q % 10)
theorem dg_toNat (q : Nat) : ((dg q).toNat : Int) = 48 + (q : Int) % 10 := by unfold dg; rw [UInt8.toNat_ofNat']; omega
def mt : Nat → Nat → List UInt8 → List UInt8
  | 0, _, o => o
  | f + 1, k, o => if k = 0 then o else mt f (k / 10) (dg k :: o)
/-- the text of mark k. -/
def mtx (k : Nat) : List UInt8 := 109 :: mt k k []

def MarkPost (k : Nat) (w : World) (e : Ending) (w' : World) : Prop := e = .returned (S (mtx k)) ∧ Below w.heap.size w w'

theorem mt_zero (f : Nat) (o : List UInt8) : mt f 0 o = o := by cases f <;> simp [mt]
theorem mt_step (f q : Nat) (o : List UInt8) (hq : 0 < q) (hf : q ≤ f) : ∃ f', f = f' + 1 ∧ q / 10 ≤ f' ∧ mt f q o = mt f' (q / 10) (dg q :: o) := by
  cases f with
  | zero => omega
  | succ f => exact ⟨f, rfl, by omega, by rw [mt, if_neg (by omega)]⟩

/-- one digit as a string. -/
theorem digit_str (w : World) (q : Nat) : (convert 22 9 (.slice (some ⟨w.heap.size, 0, none⟩) 1 1)).run Tryz.prog (w.alloc (.cells #[.int .u8 (48 + (q : Int) % 10)] 5)) =
    .ok (.string ⟨[dg q].toArray⟩) (w.alloc (.cells #[.int .u8 (48 + (q : Int) % 10)] 5)) := by
  refine run_convert_bytes_back (l := [dg q]) _ _ _ _ _ _ Tryz.underlying22 Tryz.underlying5 Tryz.underlying9 (fun j hj => ?_)
  obtain rfl : j = 0 := by simp at hj; omega
  simp only [List.getElem_cons_zero, dg_toNat]
  have := cells_new w [.int .u8 (48 + (q : Int) % 10)] 5 0 _ rfl
  exact this

set_option maxRecDepth 100000 in
set_option maxHeartbeats 400000 in
theorem markText_any (k : Nat) (w : World) (h0 : 1 ≤ k) (h1 : k ≤ 10000000) :
    Calls Tryz.prog 69 #[.int .i64 k] w (MarkPost k w) := by
  have hk : ¬ (k : Int) ≤ 0 := by omega
  have hd := digit_str
  go_enter Tryz.func69, Tryz.ntmps69
  go_wp2_with fail
  go_loopw [0, 3] (fun i s wr => ∃ (f q : Nat) (o : List UInt8), q ≤ f ∧ q ≤ 10000000 ∧ o.length + q ≤ 10000000 ∧ i = .int .i64 q ∧ s = S o ∧ Hid (mt k k [] = mt f q o) ∧ Below w.heap.size w wr) (fun i _ _ => (intOf i).toNat)
  case atStart => exact ⟨k, k, [], Nat.le_refl _, h1, by simpa using h1, rfl, rfl, Lib.hid rfl, Below.refl _ _⟩
  case round =>
    obtain ⟨f, q, o, hq, hq2, ho, rfl, rfl, heq, hW⟩ := hrel
    by_cases hlt : 0 < q
    · have i1 : (0 : Int) < (q : Int) := by omega
      obtain ⟨f', rfl, hf', hst⟩ := mt_step f q o hlt hq
      have HS := Lib.hid hst
      clear hst
      go_wp2_with fail
      go_roundw
      case rel => exact ⟨f', q / 10, dg q :: o, hf', by omega, by simp; omega, by go_num, rfl, Lib.hid (by rw [heq.out, HS.out]), by exact bBel⟩
      case measure => simp [intOf]; omega
    · obtain rfl : q = 0 := by omega
      have HE := Lib.hid (show mtx k = 109 :: o by unfold mtx; rw [heq.out, mt_zero])
      go_wp2_with fail
      go_ret
      rw [MarkPost, HE.out]
      exact ⟨rfl, hW⟩

end Go.Proofs.YtbjlkdenkmbepaaGreatDoor

namespace Go.Proofs.YtbjlkdenkmbepaaGreatDoor
open Go.RowKit

/-- a record without its last byte is no record. -/
theorem IsRec.less {s : List UInt8} {a b c d : Nat} {p q : List UInt8} (h : IsRec s a b p) : ¬ IsRec (s.take (s.length - 1)) c d q := by
  rintro ⟨_, _, _, k⟩
  obtain ⟨_, _, _, h⟩ := h
  have key : ∀ (x y : List UInt8) (u v : List UInt8), (∀ c ∈ u, c ≠ 32) → (∀ c ∈ v, c ≠ 32) → x ++ 32 :: u = y ++ 32 :: v → x = y ∧ u = v := by
    intro x y u v hu hv e
    have h1 := lsp_tail x u hu
    have h2 := lsp_tail y v hv
    rw [e, h2] at h1
    have h3 : y.length = x.length := by omega
    have := List.append_inj e h3.symm
    exact ⟨this.1, by injection this.2⟩
  obtain ⟨N, hN⟩ : ∃ N, N = nm (smS 0 (recB a b p)) := ⟨_, rfl⟩
  have hp : 1 ≤ N.length := by rw [hN]; exact nm_pos _
  have hd := no32 (smS 0 (recB a b p))
  rw [← hN] at hd
  have e1 : s = recB a b p ++ 32 :: N := by rw [← h, hN]; rfl
  have e2 : s.take (s.length - 1) = recB a b p ++ 32 :: N.dropLast := by
    have e3 : s = (recB a b p ++ 32 :: N.dropLast) ++ [N.getLast (by intro e; rw [e] at hp; simp at hp)] := by
      rw [e1, List.append_assoc, List.cons_append, List.dropLast_concat_getLast]
    have e4 : s.length - 1 = (recB a b p ++ 32 :: N.dropLast).length := by rw [e3]; simp
    rw [e4]
    conv => lhs; rw [e3]
    rw [List.take_left]
  rw [e2] at k
  unfold recX at k
  obtain ⟨k1, k2⟩ := key _ _ _ _ (no32 _) (fun c hc => hd c (List.dropLast_subset _ hc)) k
  rw [k1, ← hN] at k2
  have := congrArg List.length k2
  rw [List.length_dropLast] at this
  omega

end Go.Proofs.YtbjlkdenkmbepaaGreatDoor

namespace Go.Proofs.YtbjlkdenkmbepaaGreatDoor
open Go.RowKit

open Classical in
/-- the change of which a text is the record, if there is one. -/
noncomputable def rdM (s : List UInt8) : Option Ch := if h : ∃ x : Nat × Nat × List UInt8, IsRec s x.1 x.2.1 x.2.2 then some ⟨h.choose.1, h.choose.2.1, h.choose.2.2⟩ else none
/-- the text behind the records, and how many were played. -/
noncomputable def pl : List UInt8 → List (List UInt8) → List UInt8 × Nat
  | s, [] => (s, 0)
  | s, r :: rs => match rdM r with
    | none => (s, 0)
    | some x => if okF s x = true then ((pl (apF s x) rs).1, (pl (apF s x) rs).2 + 1) else (s, 0)
end Go.Proofs.YtbjlkdenkmbepaaGreatDoor

namespace Go.Proofs.YtbjlkdenkmbepaaGreatDoor
open Go.RowKit

end Go.Proofs.YtbjlkdenkmbepaaGreatDoor

namespace Go.Proofs.YtbjlkdenkmbepaaGreatDoor
open Go.RowKit

end Go.Proofs.YtbjlkdenkmbepaaGreatDoor

namespace Go.Proofs.YtbjlkdenkmbepaaGreatDoor
open Go.RowKit

end Go.Proofs.YtbjlkdenkmbepaaGreatDoor

namespace Go.Proofs.YtbjlkdenkmbepaaGreatDoor
open Go.RowKit
set_option linter.unusedVariables false



end Go.Proofs.YtbjlkdenkmbepaaGreatDoor

namespace Go.Proofs.YtbjlkdenkmbepaaGreatDoor
open Go.RowKit
set_option linter.unusedVariables false


end Go.Proofs.YtbjlkdenkmbepaaGreatDoor

namespace Go.Proofs.YtbjlkdenkmbepaaGreatDoor
open Go.RowKit
set_option linter.unusedVariables false


end Go.Proofs.YtbjlkdenkmbepaaGreatDoor
