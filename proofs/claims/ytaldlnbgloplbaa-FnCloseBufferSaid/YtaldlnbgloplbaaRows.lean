/-
  No cell of these rows narrows 'for every input' (looked for: loops, veiled, ifaces, maps, wideKeys, modest, calm, conditions, laid).
  DERIVED. THE GIVEN ROWS OF THIS SEAT. 8 by the template 'for every input the law returns true; each argument reads behind the call as it read before'; 0 by the template 'total and deterministic' (their statements: YtaldlnbgloplbaaTotals.lean).
  GIVEN WITH THE SEED: the statements are not yours to turn. If you find one false, say at which input.
  Laid BY PROGRAM, IN A SANDBOX (cutbox-rows.mjs): the forced cells as the released guide's own fill.sh prints them over the translation b8bc8f672ee22648… (all of the seat's roots in one cut). By AI agents, Wed Nov 11 2026. No macro, syntax, notation, axiom, sorry.
-/
import Derived.Test.YtaldlnbgloplbaaChecked
import GoSem.Claim
import GoSem.ClaimJoined
import GoSem.ClaimMapViews
import Derived.JoinedTies
import Derived.KernelRfl
namespace Go.Proofs.Ytaldlnbgloplbaa
/- THE CELL 'sum', in the pinned program and in every row, IS THE sha256 OF THE DUMP (.gsa) THAT YtaldlnbgloplbaaProg.lean LOADS. Nothing in Lean hashes anything: it is a label: what it is worth is what the hold of that sum in a sandbox is worth. -/
noncomputable def Try.pinned : Pinned := { name := "ytaldlnbgloplbaa", sum := "b8bc8f672ee22648ed519fdff5b0f1c398f9da3dddcb1eb835228d5a5d03b91a", checked := Try.checked }
namespace Rows
def none {H : Type} : Left H := { results := [], args := [] }

/-- 'laws.FnBuffersValid': WHATEVER THE INPUT: true; the input reads as it did. -/
def fnBuffersValidSpec : ChangeSpec := { name := "fnBuffersValid", fn := fun _ => fun
  | [d] => { results := [.lit (.bool true)], args := [d] }
  | _ => none }
def fnBuffersValidRow : OpenClaim := { program := "ytaldlnbgloplbaa", sum := "b8bc8f672ee22648ed519fdff5b0f1c398f9da3dddcb1eb835228d5a5d03b91a", func := "loop.example/texteditor/laws.FnBuffersValid", spec := "fnBuffersValid", inPlace := ["internal/bytealg.CountString", "internal/bytealg.IndexByteString", "internal/bytealg.IndexString"], unfollowed := true, recurses := true, named := ["internal/bytealg.MaxLen"], apart := false }
def FnBuffersValidSaid : Prop := fnBuffersValidRow.holds Try.pinned (OpenSpec.ofChange fnBuffersValidSpec)

/-- ITS FALSE NEIGHBOUR: 'it returns false'. Refute it at one input. -/
def fnBuffersValidWrong : ChangeSpec := { name := "fnBuffersValid", fn := fun _ => fun
  | [d] => { results := [.lit (.bool false)], args := [d] }
  | _ => none }
def FnBuffersValidWrongFalsely : Prop := fnBuffersValidRow.holds Try.pinned (OpenSpec.ofChange fnBuffersValidWrong)

/-- 'laws.FnOpenBuffer': WHATEVER THE INPUT: true; the input reads as it did. -/
def fnOpenBufferSpec : ChangeSpec := { name := "fnOpenBuffer", fn := fun _ => fun
  | [d] => { results := [.lit (.bool true)], args := [d] }
  | _ => none }
def fnOpenBufferRow : OpenClaim := { program := "ytaldlnbgloplbaa", sum := "b8bc8f672ee22648ed519fdff5b0f1c398f9da3dddcb1eb835228d5a5d03b91a", func := "loop.example/texteditor/laws.FnOpenBuffer", spec := "fnOpenBuffer", inPlace := ["internal/bytealg.CountString", "internal/bytealg.IndexByteString", "internal/bytealg.IndexString"], unfollowed := true, recurses := true, named := ["internal/bytealg.MaxLen"], apart := false }
def FnOpenBufferSaid : Prop := fnOpenBufferRow.holds Try.pinned (OpenSpec.ofChange fnOpenBufferSpec)

/-- ITS FALSE NEIGHBOUR: 'it returns false'. Refute it at one input. -/
def fnOpenBufferWrong : ChangeSpec := { name := "fnOpenBuffer", fn := fun _ => fun
  | [d] => { results := [.lit (.bool false)], args := [d] }
  | _ => none }
def FnOpenBufferWrongFalsely : Prop := fnOpenBufferRow.holds Try.pinned (OpenSpec.ofChange fnOpenBufferWrong)

/-- 'laws.FnExactCloseBuffer': WHATEVER THE INPUT: true; the input reads as it did. -/
def fnExactCloseBufferSpec : ChangeSpec := { name := "fnExactCloseBuffer", fn := fun _ => fun
  | [d1, d2] => { results := [.lit (.bool true)], args := [d1, d2] }
  | _ => none }
def fnExactCloseBufferRow : OpenClaim := { program := "ytaldlnbgloplbaa", sum := "b8bc8f672ee22648ed519fdff5b0f1c398f9da3dddcb1eb835228d5a5d03b91a", func := "loop.example/texteditor/laws.FnExactCloseBuffer", spec := "fnExactCloseBuffer", unfollowed := true, recurses := true, apart := false }
def FnExactCloseBufferSaid : Prop := fnExactCloseBufferRow.holds Try.pinned (OpenSpec.ofChange fnExactCloseBufferSpec)

/-- ITS FALSE NEIGHBOUR: 'it returns false'. Refute it at one input. -/
def fnExactCloseBufferWrong : ChangeSpec := { name := "fnExactCloseBuffer", fn := fun _ => fun
  | [d1, d2] => { results := [.lit (.bool false)], args := [d1, d2] }
  | _ => none }
def FnExactCloseBufferWrongFalsely : Prop := fnExactCloseBufferRow.holds Try.pinned (OpenSpec.ofChange fnExactCloseBufferWrong)

/-- 'laws.FnCloseBuffer': WHATEVER THE INPUT: true; the input reads as it did. -/
def fnCloseBufferSpec : ChangeSpec := { name := "fnCloseBuffer", fn := fun _ => fun
  | [d] => { results := [.lit (.bool true)], args := [d] }
  | _ => none }
def fnCloseBufferRow : OpenClaim := { program := "ytaldlnbgloplbaa", sum := "b8bc8f672ee22648ed519fdff5b0f1c398f9da3dddcb1eb835228d5a5d03b91a", func := "loop.example/texteditor/laws.FnCloseBuffer", spec := "fnCloseBuffer", inPlace := ["internal/bytealg.CountString", "internal/bytealg.IndexByteString", "internal/bytealg.IndexString"], unfollowed := true, recurses := true, named := ["internal/bytealg.MaxLen"], apart := false }
def FnCloseBufferSaid : Prop := fnCloseBufferRow.holds Try.pinned (OpenSpec.ofChange fnCloseBufferSpec)

/-- ITS FALSE NEIGHBOUR: 'it returns false'. Refute it at one input. -/
def fnCloseBufferWrong : ChangeSpec := { name := "fnCloseBuffer", fn := fun _ => fun
  | [d] => { results := [.lit (.bool false)], args := [d] }
  | _ => none }
def FnCloseBufferWrongFalsely : Prop := fnCloseBufferRow.holds Try.pinned (OpenSpec.ofChange fnCloseBufferWrong)

/-- 'laws.FnExactSaveBuffer': WHATEVER THE INPUT: true; the input reads as it did. -/
def fnExactSaveBufferSpec : ChangeSpec := { name := "fnExactSaveBuffer", fn := fun _ => fun
  | [d1, d2] => { results := [.lit (.bool true)], args := [d1, d2] }
  | _ => none }
def fnExactSaveBufferRow : OpenClaim := { program := "ytaldlnbgloplbaa", sum := "b8bc8f672ee22648ed519fdff5b0f1c398f9da3dddcb1eb835228d5a5d03b91a", func := "loop.example/texteditor/laws.FnExactSaveBuffer", spec := "fnExactSaveBuffer", unfollowed := true, recurses := true, apart := false }
def FnExactSaveBufferSaid : Prop := fnExactSaveBufferRow.holds Try.pinned (OpenSpec.ofChange fnExactSaveBufferSpec)

/-- ITS FALSE NEIGHBOUR: 'it returns false'. Refute it at one input. -/
def fnExactSaveBufferWrong : ChangeSpec := { name := "fnExactSaveBuffer", fn := fun _ => fun
  | [d1, d2] => { results := [.lit (.bool false)], args := [d1, d2] }
  | _ => none }
def FnExactSaveBufferWrongFalsely : Prop := fnExactSaveBufferRow.holds Try.pinned (OpenSpec.ofChange fnExactSaveBufferWrong)

/-- 'laws.FnSaveBuffer': WHATEVER THE INPUT: true; the input reads as it did. -/
def fnSaveBufferSpec : ChangeSpec := { name := "fnSaveBuffer", fn := fun _ => fun
  | [d] => { results := [.lit (.bool true)], args := [d] }
  | _ => none }
def fnSaveBufferRow : OpenClaim := { program := "ytaldlnbgloplbaa", sum := "b8bc8f672ee22648ed519fdff5b0f1c398f9da3dddcb1eb835228d5a5d03b91a", func := "loop.example/texteditor/laws.FnSaveBuffer", spec := "fnSaveBuffer", inPlace := ["internal/bytealg.CountString", "internal/bytealg.IndexByteString", "internal/bytealg.IndexString"], unfollowed := true, recurses := true, named := ["internal/bytealg.MaxLen"], apart := false }
def FnSaveBufferSaid : Prop := fnSaveBufferRow.holds Try.pinned (OpenSpec.ofChange fnSaveBufferSpec)

/-- ITS FALSE NEIGHBOUR: 'it returns false'. Refute it at one input. -/
def fnSaveBufferWrong : ChangeSpec := { name := "fnSaveBuffer", fn := fun _ => fun
  | [d] => { results := [.lit (.bool false)], args := [d] }
  | _ => none }
def FnSaveBufferWrongFalsely : Prop := fnSaveBufferRow.holds Try.pinned (OpenSpec.ofChange fnSaveBufferWrong)

/-- 'laws.FnExactChangeBuffer': WHATEVER THE INPUT: true; the input reads as it did. -/
def fnExactChangeBufferSpec : ChangeSpec := { name := "fnExactChangeBuffer", fn := fun _ => fun
  | [d1, d2, d3] => { results := [.lit (.bool true)], args := [d1, d2, d3] }
  | _ => none }
def fnExactChangeBufferRow : OpenClaim := { program := "ytaldlnbgloplbaa", sum := "b8bc8f672ee22648ed519fdff5b0f1c398f9da3dddcb1eb835228d5a5d03b91a", func := "loop.example/texteditor/laws.FnExactChangeBuffer", spec := "fnExactChangeBuffer", unfollowed := true, recurses := true, apart := false }
def FnExactChangeBufferSaid : Prop := fnExactChangeBufferRow.holds Try.pinned (OpenSpec.ofChange fnExactChangeBufferSpec)

/-- ITS FALSE NEIGHBOUR: 'it returns false'. Refute it at one input. -/
def fnExactChangeBufferWrong : ChangeSpec := { name := "fnExactChangeBuffer", fn := fun _ => fun
  | [d1, d2, d3] => { results := [.lit (.bool false)], args := [d1, d2, d3] }
  | _ => none }
def FnExactChangeBufferWrongFalsely : Prop := fnExactChangeBufferRow.holds Try.pinned (OpenSpec.ofChange fnExactChangeBufferWrong)

/-- 'laws.FnChangeBuffer': WHATEVER THE INPUT: true; the input reads as it did. -/
def fnChangeBufferSpec : ChangeSpec := { name := "fnChangeBuffer", fn := fun _ => fun
  | [d] => { results := [.lit (.bool true)], args := [d] }
  | _ => none }
def fnChangeBufferRow : OpenClaim := { program := "ytaldlnbgloplbaa", sum := "b8bc8f672ee22648ed519fdff5b0f1c398f9da3dddcb1eb835228d5a5d03b91a", func := "loop.example/texteditor/laws.FnChangeBuffer", spec := "fnChangeBuffer", inPlace := ["internal/bytealg.CountString", "internal/bytealg.IndexByteString", "internal/bytealg.IndexString"], unfollowed := true, recurses := true, named := ["internal/bytealg.MaxLen"], apart := false }
def FnChangeBufferSaid : Prop := fnChangeBufferRow.holds Try.pinned (OpenSpec.ofChange fnChangeBufferSpec)

/-- ITS FALSE NEIGHBOUR: 'it returns false'. Refute it at one input. -/
def fnChangeBufferWrong : ChangeSpec := { name := "fnChangeBuffer", fn := fun _ => fun
  | [d] => { results := [.lit (.bool false)], args := [d] }
  | _ => none }
def FnChangeBufferWrongFalsely : Prop := fnChangeBufferRow.holds Try.pinned (OpenSpec.ofChange fnChangeBufferWrong)

/- THE SECOND FORM. 'bulk': how many values and letters a reading holds, each counted each time it is reached (what is shared counts as often as it is met; a slice's spare places count too). A statement '..UptoSaid' is the law's where the arguments, and the package variables that the reading takes, are together of bulk at most 1048576: NARROWER than '..Said'. Prove '..Said' where nothing that the law and all that it calls make is longer than what came in: it says more and counts as full. Else prove '..UptoSaid'. A law counts once. -/
mutual
def uptoBulk {H : Type} : DataW H → Nat
  | .lit (.string bytes) => bytes.length + 1
  | .lit _ => 1
  | .nil => 1
  | .ptr d => uptoBulk d + 1
  | .slice elems spare => uptoBulkAll elems + uptoBulkAll spare + 1
  | .agg parts => uptoBulkAll parts + 1
  | .iface _ d => uptoBulk d + 1
  | .map entries => uptoBulkEntries entries + 1
  | .held _ => 1
def uptoBulkAll {H : Type} : List (DataW H) → Nat
  | [] => 0
  | d :: r => uptoBulk d + uptoBulkAll r
def uptoBulkEntries {H : Type} : List (Lit × DataW H) → Nat
  | [] => 0
  | x :: r => uptoBulkEntry x + uptoBulkEntries r
def uptoBulkEntry {H : Type} : Lit × DataW H → Nat
  | (.string bytes, d) => bytes.length + uptoBulk d + 1
  | (_, d) => uptoBulk d + 1
 end
def uptoSmall : (H : Type) → List (DataW H) → Bool := fun _ ds => decide (uptoBulkAll ds ≤ 1048576)
def OpenSpec.upto (s : _root_.Go.ChangeSpec) : _root_.Go.OpenSpec := { _root_.Go.OpenSpec.ofChange s with cond := some uptoSmall }

/-- 'laws.FnBuffersValid', WHERE WHAT IT READS IS OF BULK AT MOST 1048576: true; the input reads as it did. -/
def fnBuffersValidUptoRow : OpenClaim := { program := "ytaldlnbgloplbaa", sum := "b8bc8f672ee22648ed519fdff5b0f1c398f9da3dddcb1eb835228d5a5d03b91a", func := "loop.example/texteditor/laws.FnBuffersValid", spec := "fnBuffersValid", inPlace := ["internal/bytealg.CountString", "internal/bytealg.IndexByteString", "internal/bytealg.IndexString"], unfollowed := true, recurses := true, named := ["internal/bytealg.MaxLen"], apart := false, narrowed := true }
def FnBuffersValidUptoSaid : Prop := fnBuffersValidUptoRow.holds Try.pinned (OpenSpec.upto fnBuffersValidSpec)

/-- 'laws.FnOpenBuffer', WHERE WHAT IT READS IS OF BULK AT MOST 1048576: true; the input reads as it did. -/
def fnOpenBufferUptoRow : OpenClaim := { program := "ytaldlnbgloplbaa", sum := "b8bc8f672ee22648ed519fdff5b0f1c398f9da3dddcb1eb835228d5a5d03b91a", func := "loop.example/texteditor/laws.FnOpenBuffer", spec := "fnOpenBuffer", inPlace := ["internal/bytealg.CountString", "internal/bytealg.IndexByteString", "internal/bytealg.IndexString"], unfollowed := true, recurses := true, named := ["internal/bytealg.MaxLen"], apart := false, narrowed := true }
def FnOpenBufferUptoSaid : Prop := fnOpenBufferUptoRow.holds Try.pinned (OpenSpec.upto fnOpenBufferSpec)

/-- 'laws.FnExactCloseBuffer', WHERE WHAT IT READS IS OF BULK AT MOST 1048576: true; the input reads as it did. -/
def fnExactCloseBufferUptoRow : OpenClaim := { program := "ytaldlnbgloplbaa", sum := "b8bc8f672ee22648ed519fdff5b0f1c398f9da3dddcb1eb835228d5a5d03b91a", func := "loop.example/texteditor/laws.FnExactCloseBuffer", spec := "fnExactCloseBuffer", unfollowed := true, recurses := true, apart := false, narrowed := true }
def FnExactCloseBufferUptoSaid : Prop := fnExactCloseBufferUptoRow.holds Try.pinned (OpenSpec.upto fnExactCloseBufferSpec)

/-- 'laws.FnCloseBuffer', WHERE WHAT IT READS IS OF BULK AT MOST 1048576: true; the input reads as it did. -/
def fnCloseBufferUptoRow : OpenClaim := { program := "ytaldlnbgloplbaa", sum := "b8bc8f672ee22648ed519fdff5b0f1c398f9da3dddcb1eb835228d5a5d03b91a", func := "loop.example/texteditor/laws.FnCloseBuffer", spec := "fnCloseBuffer", inPlace := ["internal/bytealg.CountString", "internal/bytealg.IndexByteString", "internal/bytealg.IndexString"], unfollowed := true, recurses := true, named := ["internal/bytealg.MaxLen"], apart := false, narrowed := true }
def FnCloseBufferUptoSaid : Prop := fnCloseBufferUptoRow.holds Try.pinned (OpenSpec.upto fnCloseBufferSpec)

/-- 'laws.FnExactSaveBuffer', WHERE WHAT IT READS IS OF BULK AT MOST 1048576: true; the input reads as it did. -/
def fnExactSaveBufferUptoRow : OpenClaim := { program := "ytaldlnbgloplbaa", sum := "b8bc8f672ee22648ed519fdff5b0f1c398f9da3dddcb1eb835228d5a5d03b91a", func := "loop.example/texteditor/laws.FnExactSaveBuffer", spec := "fnExactSaveBuffer", unfollowed := true, recurses := true, apart := false, narrowed := true }
def FnExactSaveBufferUptoSaid : Prop := fnExactSaveBufferUptoRow.holds Try.pinned (OpenSpec.upto fnExactSaveBufferSpec)

/-- 'laws.FnSaveBuffer', WHERE WHAT IT READS IS OF BULK AT MOST 1048576: true; the input reads as it did. -/
def fnSaveBufferUptoRow : OpenClaim := { program := "ytaldlnbgloplbaa", sum := "b8bc8f672ee22648ed519fdff5b0f1c398f9da3dddcb1eb835228d5a5d03b91a", func := "loop.example/texteditor/laws.FnSaveBuffer", spec := "fnSaveBuffer", inPlace := ["internal/bytealg.CountString", "internal/bytealg.IndexByteString", "internal/bytealg.IndexString"], unfollowed := true, recurses := true, named := ["internal/bytealg.MaxLen"], apart := false, narrowed := true }
def FnSaveBufferUptoSaid : Prop := fnSaveBufferUptoRow.holds Try.pinned (OpenSpec.upto fnSaveBufferSpec)

/-- 'laws.FnExactChangeBuffer', WHERE WHAT IT READS IS OF BULK AT MOST 1048576: true; the input reads as it did. -/
def fnExactChangeBufferUptoRow : OpenClaim := { program := "ytaldlnbgloplbaa", sum := "b8bc8f672ee22648ed519fdff5b0f1c398f9da3dddcb1eb835228d5a5d03b91a", func := "loop.example/texteditor/laws.FnExactChangeBuffer", spec := "fnExactChangeBuffer", unfollowed := true, recurses := true, apart := false, narrowed := true }
def FnExactChangeBufferUptoSaid : Prop := fnExactChangeBufferUptoRow.holds Try.pinned (OpenSpec.upto fnExactChangeBufferSpec)

/-- 'laws.FnChangeBuffer', WHERE WHAT IT READS IS OF BULK AT MOST 1048576: true; the input reads as it did. -/
def fnChangeBufferUptoRow : OpenClaim := { program := "ytaldlnbgloplbaa", sum := "b8bc8f672ee22648ed519fdff5b0f1c398f9da3dddcb1eb835228d5a5d03b91a", func := "loop.example/texteditor/laws.FnChangeBuffer", spec := "fnChangeBuffer", inPlace := ["internal/bytealg.CountString", "internal/bytealg.IndexByteString", "internal/bytealg.IndexString"], unfollowed := true, recurses := true, named := ["internal/bytealg.MaxLen"], apart := false, narrowed := true }
def FnChangeBufferUptoSaid : Prop := fnChangeBufferUptoRow.holds Try.pinned (OpenSpec.upto fnChangeBufferSpec)

end Rows
end Go.Proofs.Ytaldlnbgloplbaa
