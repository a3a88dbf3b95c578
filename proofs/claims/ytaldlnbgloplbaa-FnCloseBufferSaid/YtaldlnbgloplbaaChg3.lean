/- What is proved here: the function that the program's ChangeBuffer hands on. No condition. -/
import Derived.Test.YtaldlnbgloplbaaChg2
namespace Go.Proofs.Ytaldlnbgloplbaa
open Go.RowKit

set_option maxRecDepth 100000 in
set_option maxHeartbeats 1000000 in
theorem change1_any (g o q : Nat) (s : List UInt8) (a c : Int) (p : List UInt8) (w : World) (hg : g < w.heap.size) (hq : q < w.heap.size) (hs : s.length ≤ maxLen) (hp : p.length ≤ 1048576)
    (c1 : w.cell? ⟨g, o + 1, none⟩ = some (S s)) (f1 : w.frozen? ⟨g, o + 1, none⟩ = false) (x0 : w.cell? ⟨q, 0, none⟩ = some (.int .i64 a)) (x1 : w.cell? ⟨q, 1, none⟩ = some (.int .i64 c)) (x2 : w.cell? ⟨q, 2, none⟩ = some (S p)) :
    Calls Try.prog 60 #[.pointer (some ⟨g, o, none⟩), .pointer (some ⟨q, 0, none⟩)] w fun e w' => e = .returned (.bool (chOk s a c p)) ∧ ∃ w1, Below w.heap.size w w1 ∧ w' = w1.setCell ⟨g, o + 1, none⟩ (S (apTo s a c p)) := by
  have hne := UpW.nonempty w
  have C1 := Lib.hid (fun y : UpW w => calls_up (implApplyChange_any s a c p (y.at w) hs hp))
  unfold chV at C1
  go_enter Try.func60, Try.ntmps60
  go_wp2_with fail
  refine wp_region_up_lit (by kernel_rfl) (by kernel_rfl) ?_
  repeat (go_big_quiet_step ((go_at_call 36; exact C1.out _)))
  refine wpQuiet_nil ?_
  intro w1 hb1
  replace hb1 := UpW.out hb1
  have d1 := (hb1.cell (p := ⟨g, o + 1, none⟩) hg).trans c1
  have e1 := (hb1.frozen (p := ⟨g, o + 1, none⟩) hg).trans f1
  have HB := Lib.hid hb1
  clear c1 f1 x0 x1 x2 C1 hb1 hne
  go_wp2_with fail
  go_ret
  exact ⟨rfl, w1, HB.out, rfl⟩

end Go.Proofs.Ytaldlnbgloplbaa
