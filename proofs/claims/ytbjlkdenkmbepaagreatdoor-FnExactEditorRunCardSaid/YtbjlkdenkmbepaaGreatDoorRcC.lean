/- What is proved here: What is proved here: the contract of the reference's ReadRecord: it gives the change that a text is the record of. What is proved here: What is proved here: plain facts: the words of a record, and the numbers that they spell. What is proved here: contracts of strings.SplitN at one space and of strconv.Atoi, in plain words. Condition: what the library's variables hold. What is proved here: What is proved here: contracts of strings.Builder's copyCheck and WriteString. What is proved here: the contract of strings.Builder's WriteByte. No condition. -/
import Derived.Test.YtbjlkdenkmbepaaGreatDoorRc8
import Derived.Lib.Split
import Derived.Lib.AtoiAll
import Derived.Test.YtbjlkdenkmbepaaGreatDoorLaidW
import Derived.Test.YtbjlkdenkmbepaaGreatDoorAc2
import Derived.Test.YtbjlkdenkmbepaaGreatDoorShelf
import Derived.Test.YtbjlkdenkmbepaaGreatDoorBase
import Derived.Shelf.Strings.Builder1
namespace Go.Proofs.YtbjlkdenkmbepaaGreatDoor
open Go.RowKit
set_option linter.unusedVariables false


end Go.Proofs.YtbjlkdenkmbepaaGreatDoor

namespace Go.Proofs.YtbjlkdenkmbepaaGreatDoor
open Go.RowKit

theorem vl_ge : ∀ (l : List UInt8) (n : Nat), n ≤ vl n l
  | [], n => Nat.le_refl _
  | c :: l, n => by
    have := vl_ge l (10 * n + (c.toNat - 48))
    show n ≤ vl (10 * n + (c.toNat - 48)) l
    omega
theorem parse_digits : ∀ (l : List UInt8) (n : Nat), (∀ c ∈ l, 48 ≤ c.toNat ∧ c.toNat ≤ 57) → vl n l < 1000000000000000000 → Lib.parseUint10 n l = .ok (vl n l)
  | [], n, _, _ => rfl
  | c :: l, n, hd, hv => by
    have hc := hd c (by simp)
    have h1 : vl n (c :: l) = vl (10 * n + (c.toNat - 48)) l := rfl
    rw [h1] at hv
    have h2 := vl_ge l (10 * n + (c.toNat - 48))
    rw [Lib.parseUint10, if_pos hc, if_neg (by omega), if_neg (by omega), h1, Nat.mul_comm n 10]
    exact parse_digits l _ (fun d hd2 => hd d (by simp [hd2])) hv
end Go.Proofs.YtbjlkdenkmbepaaGreatDoor

namespace Go.Proofs.YtbjlkdenkmbepaaGreatDoor
open Go.RowKit
set_option linter.unusedVariables false

end Go.Proofs.YtbjlkdenkmbepaaGreatDoor

namespace Go.Proofs.YtbjlkdenkmbepaaGreatDoor
open Go.RowKit Go.Shelf
set_option linter.unusedVariables false

theorem builder_size : (Tryz.prog.info? 154).map (·.size) = some 2 := by kernel_rfl
theorem builder_lies : liesAt Tryz.prog Tryz.prog.depth 154 (2 / Tryz.prog.cellsOf 154) 0 154 1 = true := by kernel_rfl
theorem byte_info : (Tryz.prog.info? 5).map (fun i => (i.zero, i.size, i.bytes)) = some (some (.int .u8 0), 1, 1) := by kernel_rfl

set_option maxHeartbeats 1000000 in
set_option maxRecDepth 100000 in
theorem copyCheck_used (b : Nat) (w : World) (h0 : w.cell? ⟨b, 0, none⟩ = some (.pointer (some ⟨b, 0, none⟩))) :
    Calls Tryz.prog 182 #[.pointer (some ⟨b, 0, none⟩)] w fun e w' => e = .returned (.tuple #[]) ∧ w' = w := by
  obtain ⟨j, hj, _⟩ := Option.map_eq_some_iff.1 builder_size
  go_enter Tryz.func182, Tryz.ntmps182
  go_wp2_with fail
  rw [Lib.run_neq_ptr_same w _ Tryz.underlying152 hj]
  go_wp2_with fail
  go_end0
  exact ⟨rfl, rfl⟩

set_option maxHeartbeats 1000000 in
set_option maxRecDepth 100000 in
theorem copyCheck_fresh (b : Nat) (w : World) (h0 : w.cell? ⟨b, 0, none⟩ = some (.pointer none)) (hsh : w.shape? b = some (154, 2)) (hfz : w.frozen? ⟨b, 0, none⟩ = false) :
    Calls Tryz.prog 182 #[.pointer (some ⟨b, 0, none⟩)] w fun e w' => e = .returned (.tuple #[]) ∧ w' = w.setCell ⟨b, 0, none⟩ (.pointer (some ⟨b, 0, none⟩)) := by
  obtain ⟨j, hj, hjs⟩ := Option.map_eq_some_iff.1 builder_size
  go_enter Tryz.func182, Tryz.ntmps182
  go_wp2_with fail
  rw [Lib.run_to_unsafe w ⟨b, 0, none⟩ Tryz.underlying152 Tryz.underlying199 hj (by rw [hjs]; decide) hsh (Nat.zero_lt_succ 1)]
  simp only [Result.andThen]
  rw [Oper.upon_value]
  go_wp2_with fail
  rw [run_callFunc_extern Tryz.func205 (by kernel_rfl) (by kernel_rfl) (by kernel_rfl) (e := Extern.AbiNoEscape.same) (by kernel_rfl)]
  rw [Lib.run_noEscape]
  simp only [Result.andThen]
  rw [Oper.upon_value]
  go_wp2_with fail
  rw [Lib.run_from_unsafe w ⟨b, 0, none⟩ Tryz.underlying199 Tryz.underlying152 hj hsh builder_lies]
  simp only [Result.andThen]
  rw [Oper.upon_value]
  go_wp2_with fail
  first
    | (go_end0; exact ⟨rfl, rfl⟩)
    | (rw [Lib.run_neq_ptr_same _ _ Tryz.underlying152 hj]
       go_wp2_with fail
       go_end0
       exact ⟨rfl, rfl⟩)
end Go.Proofs.YtbjlkdenkmbepaaGreatDoor

namespace Go.Proofs.YtbjlkdenkmbepaaGreatDoor
open Go.RowKit Go.Shelf
set_option linter.unusedVariables false

end Go.Proofs.YtbjlkdenkmbepaaGreatDoor
