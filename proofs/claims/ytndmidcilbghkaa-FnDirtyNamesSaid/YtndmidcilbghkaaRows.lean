/-
  No cell of these rows narrows 'for every input' (looked for: loops, veiled, ifaces, maps, wideKeys, modest, calm, conditions, laid).
  DERIVED. THE GIVEN ROWS OF THIS SEAT. 8 by the template 'for every input the law returns true; each argument reads behind the call as it read before'; 0 by the template 'total and deterministic' (their statements: YtndmidcilbghkaaTotals.lean).
  GIVEN WITH THE SEED: the statements are not yours to turn. If you find one false, say at which input.
  Laid BY PROGRAM, IN A SANDBOX (cutbox-rows.mjs): the forced cells as the released guide's own fill.sh prints them over the translation fc5e647591d47b79… (all of the seat's roots in one cut). By AI agents, Wed Nov 11 2026. No macro, syntax, notation, axiom, sorry.
-/
import Derived.Test.YtndmidcilbghkaaChecked
import GoSem.Claim
import GoSem.ClaimJoined
import GoSem.ClaimMapViews
import Derived.JoinedTies
import Derived.KernelRfl
namespace Go.Proofs.Ytndmidcilbghkaa
/- THE CELL 'sum', in the pinned program and in every row, IS THE sha256 OF THE DUMP (.gsa) THAT YtndmidcilbghkaaProg.lean LOADS. Nothing in Lean hashes anything: it is a label: what it is worth is what the hold of that sum in a sandbox is worth. -/
noncomputable def Try.pinned : Pinned := { name := "ytndmidcilbghkaa", sum := "fc5e647591d47b79b144a619bfaeb5134a53b0e8c3f061d5b860fbecfeebaf60", checked := Try.checked }
namespace Rows
def none {H : Type} : Left H := { results := [], args := [] }

/-- 'laws.FnExactPressKey': WHATEVER THE INPUT: true; the input reads as it did. -/
def fnExactPressKeySpec : ChangeSpec := { name := "fnExactPressKey", fn := fun _ => fun
  | [d1, d2] => { results := [.lit (.bool true)], args := [d1, d2] }
  | _ => none }
def fnExactPressKeyRow : OpenClaim := { program := "ytndmidcilbghkaa", sum := "fc5e647591d47b79b144a619bfaeb5134a53b0e8c3f061d5b860fbecfeebaf60", func := "loop.example/texteditor/laws.FnExactPressKey", spec := "fnExactPressKey", inPlace := ["internal/bytealg.CountString", "internal/bytealg.IndexByteString", "internal/bytealg.IndexString"], named := ["internal/bytealg.MaxLen"], apart := false }
def FnExactPressKeySaid : Prop := fnExactPressKeyRow.holds Try.pinned (OpenSpec.ofChange fnExactPressKeySpec)

/-- ITS FALSE NEIGHBOUR: 'it returns false'. Refute it at one input. -/
def fnExactPressKeyWrong : ChangeSpec := { name := "fnExactPressKey", fn := fun _ => fun
  | [d1, d2] => { results := [.lit (.bool false)], args := [d1, d2] }
  | _ => none }
def FnExactPressKeyWrongFalsely : Prop := fnExactPressKeyRow.holds Try.pinned (OpenSpec.ofChange fnExactPressKeyWrong)

/-- 'laws.FnExactPressKeys': WHATEVER THE INPUT: true; the input reads as it did. -/
def fnExactPressKeysSpec : ChangeSpec := { name := "fnExactPressKeys", fn := fun _ => fun
  | [d1, d2] => { results := [.lit (.bool true)], args := [d1, d2] }
  | _ => none }
def fnExactPressKeysRow : OpenClaim := { program := "ytndmidcilbghkaa", sum := "fc5e647591d47b79b144a619bfaeb5134a53b0e8c3f061d5b860fbecfeebaf60", func := "loop.example/texteditor/laws.FnExactPressKeys", spec := "fnExactPressKeys", inPlace := ["internal/bytealg.CountString", "internal/bytealg.IndexByteString", "internal/bytealg.IndexString"], named := ["internal/bytealg.MaxLen"], apart := false }
def FnExactPressKeysSaid : Prop := fnExactPressKeysRow.holds Try.pinned (OpenSpec.ofChange fnExactPressKeysSpec)

/-- ITS FALSE NEIGHBOUR: 'it returns false'. Refute it at one input. -/
def fnExactPressKeysWrong : ChangeSpec := { name := "fnExactPressKeys", fn := fun _ => fun
  | [d1, d2] => { results := [.lit (.bool false)], args := [d1, d2] }
  | _ => none }
def FnExactPressKeysWrongFalsely : Prop := fnExactPressKeysRow.holds Try.pinned (OpenSpec.ofChange fnExactPressKeysWrong)

/-- 'laws.FnExactRepeatKeys': WHATEVER THE INPUT: true; the input reads as it did. -/
def fnExactRepeatKeysSpec : ChangeSpec := { name := "fnExactRepeatKeys", fn := fun _ => fun
  | [d1, d2, d3] => { results := [.lit (.bool true)], args := [d1, d2, d3] }
  | _ => none }
def fnExactRepeatKeysRow : OpenClaim := { program := "ytndmidcilbghkaa", sum := "fc5e647591d47b79b144a619bfaeb5134a53b0e8c3f061d5b860fbecfeebaf60", func := "loop.example/texteditor/laws.FnExactRepeatKeys", spec := "fnExactRepeatKeys", inPlace := ["internal/bytealg.CountString", "internal/bytealg.IndexByteString", "internal/bytealg.IndexString"], named := ["internal/bytealg.MaxLen"], apart := false }
def FnExactRepeatKeysSaid : Prop := fnExactRepeatKeysRow.holds Try.pinned (OpenSpec.ofChange fnExactRepeatKeysSpec)

/-- ITS FALSE NEIGHBOUR: 'it returns false'. Refute it at one input. -/
def fnExactRepeatKeysWrong : ChangeSpec := { name := "fnExactRepeatKeys", fn := fun _ => fun
  | [d1, d2, d3] => { results := [.lit (.bool false)], args := [d1, d2, d3] }
  | _ => none }
def FnExactRepeatKeysWrongFalsely : Prop := fnExactRepeatKeysRow.holds Try.pinned (OpenSpec.ofChange fnExactRepeatKeysWrong)

/-- 'laws.FnPressKey': WHATEVER THE INPUT: true; the input reads as it did. -/
def fnPressKeySpec : ChangeSpec := { name := "fnPressKey", fn := fun _ => fun
  | [d] => { results := [.lit (.bool true)], args := [d] }
  | _ => none }
def fnPressKeyRow : OpenClaim := { program := "ytndmidcilbghkaa", sum := "fc5e647591d47b79b144a619bfaeb5134a53b0e8c3f061d5b860fbecfeebaf60", func := "loop.example/texteditor/laws.FnPressKey", spec := "fnPressKey", inPlace := ["internal/bytealg.CountString", "internal/bytealg.IndexByteString", "internal/bytealg.IndexString"], named := ["internal/bytealg.MaxLen"], apart := false }
def FnPressKeySaid : Prop := fnPressKeyRow.holds Try.pinned (OpenSpec.ofChange fnPressKeySpec)

/-- ITS FALSE NEIGHBOUR: 'it returns false'. Refute it at one input. -/
def fnPressKeyWrong : ChangeSpec := { name := "fnPressKey", fn := fun _ => fun
  | [d] => { results := [.lit (.bool false)], args := [d] }
  | _ => none }
def FnPressKeyWrongFalsely : Prop := fnPressKeyRow.holds Try.pinned (OpenSpec.ofChange fnPressKeyWrong)

/-- 'laws.FnKeysBack': WHATEVER THE INPUT: true; the input reads as it did. -/
def fnKeysBackSpec : ChangeSpec := { name := "fnKeysBack", fn := fun _ => fun
  | [d] => { results := [.lit (.bool true)], args := [d] }
  | _ => none }
def fnKeysBackRow : OpenClaim := { program := "ytndmidcilbghkaa", sum := "fc5e647591d47b79b144a619bfaeb5134a53b0e8c3f061d5b860fbecfeebaf60", func := "loop.example/texteditor/laws.FnKeysBack", spec := "fnKeysBack", inPlace := ["internal/bytealg.CountString", "internal/bytealg.IndexByteString", "internal/bytealg.IndexString"], named := ["internal/bytealg.MaxLen"], apart := false }
def FnKeysBackSaid : Prop := fnKeysBackRow.holds Try.pinned (OpenSpec.ofChange fnKeysBackSpec)

/-- ITS FALSE NEIGHBOUR: 'it returns false'. Refute it at one input. -/
def fnKeysBackWrong : ChangeSpec := { name := "fnKeysBack", fn := fun _ => fun
  | [d] => { results := [.lit (.bool false)], args := [d] }
  | _ => none }
def FnKeysBackWrongFalsely : Prop := fnKeysBackRow.holds Try.pinned (OpenSpec.ofChange fnKeysBackWrong)

/-- 'laws.FnPressKeys': WHATEVER THE INPUT: true; the input reads as it did. -/
def fnPressKeysSpec : ChangeSpec := { name := "fnPressKeys", fn := fun _ => fun
  | [d] => { results := [.lit (.bool true)], args := [d] }
  | _ => none }
def fnPressKeysRow : OpenClaim := { program := "ytndmidcilbghkaa", sum := "fc5e647591d47b79b144a619bfaeb5134a53b0e8c3f061d5b860fbecfeebaf60", func := "loop.example/texteditor/laws.FnPressKeys", spec := "fnPressKeys", inPlace := ["internal/bytealg.CountString", "internal/bytealg.IndexByteString", "internal/bytealg.IndexString"], named := ["internal/bytealg.MaxLen"], apart := false }
def FnPressKeysSaid : Prop := fnPressKeysRow.holds Try.pinned (OpenSpec.ofChange fnPressKeysSpec)

/-- ITS FALSE NEIGHBOUR: 'it returns false'. Refute it at one input. -/
def fnPressKeysWrong : ChangeSpec := { name := "fnPressKeys", fn := fun _ => fun
  | [d] => { results := [.lit (.bool false)], args := [d] }
  | _ => none }
def FnPressKeysWrongFalsely : Prop := fnPressKeysRow.holds Try.pinned (OpenSpec.ofChange fnPressKeysWrong)

/-- 'laws.FnRepeatKeys': WHATEVER THE INPUT: true; the input reads as it did. -/
def fnRepeatKeysSpec : ChangeSpec := { name := "fnRepeatKeys", fn := fun _ => fun
  | [d] => { results := [.lit (.bool true)], args := [d] }
  | _ => none }
def fnRepeatKeysRow : OpenClaim := { program := "ytndmidcilbghkaa", sum := "fc5e647591d47b79b144a619bfaeb5134a53b0e8c3f061d5b860fbecfeebaf60", func := "loop.example/texteditor/laws.FnRepeatKeys", spec := "fnRepeatKeys", inPlace := ["internal/bytealg.CountString", "internal/bytealg.IndexByteString", "internal/bytealg.IndexString"], named := ["internal/bytealg.MaxLen"], apart := false }
def FnRepeatKeysSaid : Prop := fnRepeatKeysRow.holds Try.pinned (OpenSpec.ofChange fnRepeatKeysSpec)

/-- ITS FALSE NEIGHBOUR: 'it returns false'. Refute it at one input. -/
def fnRepeatKeysWrong : ChangeSpec := { name := "fnRepeatKeys", fn := fun _ => fun
  | [d] => { results := [.lit (.bool false)], args := [d] }
  | _ => none }
def FnRepeatKeysWrongFalsely : Prop := fnRepeatKeysRow.holds Try.pinned (OpenSpec.ofChange fnRepeatKeysWrong)

/-- 'laws.FnDirtyNames': WHATEVER THE INPUT: true; the input reads as it did. -/
def fnDirtyNamesSpec : ChangeSpec := { name := "fnDirtyNames", fn := fun _ => fun
  | [d] => { results := [.lit (.bool true)], args := [d] }
  | _ => none }
def fnDirtyNamesRow : OpenClaim := { program := "ytndmidcilbghkaa", sum := "fc5e647591d47b79b144a619bfaeb5134a53b0e8c3f061d5b860fbecfeebaf60", func := "loop.example/texteditor/laws.FnDirtyNames", spec := "fnDirtyNames", inPlace := ["internal/bytealg.CountString", "internal/bytealg.IndexByteString", "internal/bytealg.IndexString"], unfollowed := true, recurses := true, named := ["internal/bytealg.MaxLen"], apart := false }
def FnDirtyNamesSaid : Prop := fnDirtyNamesRow.holds Try.pinned (OpenSpec.ofChange fnDirtyNamesSpec)

/-- ITS FALSE NEIGHBOUR: 'it returns false'. Refute it at one input. -/
def fnDirtyNamesWrong : ChangeSpec := { name := "fnDirtyNames", fn := fun _ => fun
  | [d] => { results := [.lit (.bool false)], args := [d] }
  | _ => none }
def FnDirtyNamesWrongFalsely : Prop := fnDirtyNamesRow.holds Try.pinned (OpenSpec.ofChange fnDirtyNamesWrong)

/- THE SECOND FORM. 'bulk': how many values and letters a reading holds, each counted each time it is reached (what is shared counts as often as it is met; a slice's spare places count too). A statement '..UptoSaid' is the law's where the arguments, and the package variables that the reading takes, are together of bulk at most 1048576: NARROWER than '..Said'. Prove '..Said' where nothing that the law and all that it calls make is longer than what came in: it says more and counts as full. Else prove '..UptoSaid'. A law counts once. -/
mutual
def uptoBulk {H : Type} : DataW H → Nat
  | .lit (.string bytes) => bytes.length + 1
  | .lit _ => 1
  | .nil => 1
  | .ptr d => uptoBulk d + 1
  | .slice elems spare => uptoBulkAll elems + uptoBulkAll spare + 1
  | .agg parts => uptoBulkAll parts + 1
  | .iface _ d => uptoBulk d + 1
  | .map entries => uptoBulkEntries entries + 1
  | .held _ => 1
def uptoBulkAll {H : Type} : List (DataW H) → Nat
  | [] => 0
  | d :: r => uptoBulk d + uptoBulkAll r
def uptoBulkEntries {H : Type} : List (Lit × DataW H) → Nat
  | [] => 0
  | x :: r => uptoBulkEntry x + uptoBulkEntries r
def uptoBulkEntry {H : Type} : Lit × DataW H → Nat
  | (.string bytes, d) => bytes.length + uptoBulk d + 1
  | (_, d) => uptoBulk d + 1
 end
def uptoSmall : (H : Type) → List (DataW H) → Bool := fun _ ds => decide (uptoBulkAll ds ≤ 1048576)
def OpenSpec.upto (s : _root_.Go.ChangeSpec) : _root_.Go.OpenSpec := { _root_.Go.OpenSpec.ofChange s with cond := some uptoSmall }

/-- 'laws.FnExactPressKey', WHERE WHAT IT READS IS OF BULK AT MOST 1048576: true; the input reads as it did. -/
def fnExactPressKeyUptoRow : OpenClaim := { program := "ytndmidcilbghkaa", sum := "fc5e647591d47b79b144a619bfaeb5134a53b0e8c3f061d5b860fbecfeebaf60", func := "loop.example/texteditor/laws.FnExactPressKey", spec := "fnExactPressKey", inPlace := ["internal/bytealg.CountString", "internal/bytealg.IndexByteString", "internal/bytealg.IndexString"], named := ["internal/bytealg.MaxLen"], apart := false, narrowed := true }
def FnExactPressKeyUptoSaid : Prop := fnExactPressKeyUptoRow.holds Try.pinned (OpenSpec.upto fnExactPressKeySpec)

/-- 'laws.FnExactPressKeys', WHERE WHAT IT READS IS OF BULK AT MOST 1048576: true; the input reads as it did. -/
def fnExactPressKeysUptoRow : OpenClaim := { program := "ytndmidcilbghkaa", sum := "fc5e647591d47b79b144a619bfaeb5134a53b0e8c3f061d5b860fbecfeebaf60", func := "loop.example/texteditor/laws.FnExactPressKeys", spec := "fnExactPressKeys", inPlace := ["internal/bytealg.CountString", "internal/bytealg.IndexByteString", "internal/bytealg.IndexString"], named := ["internal/bytealg.MaxLen"], apart := false, narrowed := true }
def FnExactPressKeysUptoSaid : Prop := fnExactPressKeysUptoRow.holds Try.pinned (OpenSpec.upto fnExactPressKeysSpec)

/-- 'laws.FnExactRepeatKeys', WHERE WHAT IT READS IS OF BULK AT MOST 1048576: true; the input reads as it did. -/
def fnExactRepeatKeysUptoRow : OpenClaim := { program := "ytndmidcilbghkaa", sum := "fc5e647591d47b79b144a619bfaeb5134a53b0e8c3f061d5b860fbecfeebaf60", func := "loop.example/texteditor/laws.FnExactRepeatKeys", spec := "fnExactRepeatKeys", inPlace := ["internal/bytealg.CountString", "internal/bytealg.IndexByteString", "internal/bytealg.IndexString"], named := ["internal/bytealg.MaxLen"], apart := false, narrowed := true }
def FnExactRepeatKeysUptoSaid : Prop := fnExactRepeatKeysUptoRow.holds Try.pinned (OpenSpec.upto fnExactRepeatKeysSpec)

/-- 'laws.FnPressKey', WHERE WHAT IT READS IS OF BULK AT MOST 1048576: true; the input reads as it did. -/
def fnPressKeyUptoRow : OpenClaim := { program := "ytndmidcilbghkaa", sum := "fc5e647591d47b79b144a619bfaeb5134a53b0e8c3f061d5b860fbecfeebaf60", func := "loop.example/texteditor/laws.FnPressKey", spec := "fnPressKey", inPlace := ["internal/bytealg.CountString", "internal/bytealg.IndexByteString", "internal/bytealg.IndexString"], named := ["internal/bytealg.MaxLen"], apart := false, narrowed := true }
def FnPressKeyUptoSaid : Prop := fnPressKeyUptoRow.holds Try.pinned (OpenSpec.upto fnPressKeySpec)

/-- 'laws.FnKeysBack', WHERE WHAT IT READS IS OF BULK AT MOST 1048576: true; the input reads as it did. -/
def fnKeysBackUptoRow : OpenClaim := { program := "ytndmidcilbghkaa", sum := "fc5e647591d47b79b144a619bfaeb5134a53b0e8c3f061d5b860fbecfeebaf60", func := "loop.example/texteditor/laws.FnKeysBack", spec := "fnKeysBack", inPlace := ["internal/bytealg.CountString", "internal/bytealg.IndexByteString", "internal/bytealg.IndexString"], named := ["internal/bytealg.MaxLen"], apart := false, narrowed := true }
def FnKeysBackUptoSaid : Prop := fnKeysBackUptoRow.holds Try.pinned (OpenSpec.upto fnKeysBackSpec)

/-- 'laws.FnPressKeys', WHERE WHAT IT READS IS OF BULK AT MOST 1048576: true; the input reads as it did. -/
def fnPressKeysUptoRow : OpenClaim := { program := "ytndmidcilbghkaa", sum := "fc5e647591d47b79b144a619bfaeb5134a53b0e8c3f061d5b860fbecfeebaf60", func := "loop.example/texteditor/laws.FnPressKeys", spec := "fnPressKeys", inPlace := ["internal/bytealg.CountString", "internal/bytealg.IndexByteString", "internal/bytealg.IndexString"], named := ["internal/bytealg.MaxLen"], apart := false, narrowed := true }
def FnPressKeysUptoSaid : Prop := fnPressKeysUptoRow.holds Try.pinned (OpenSpec.upto fnPressKeysSpec)

/-- 'laws.FnRepeatKeys', WHERE WHAT IT READS IS OF BULK AT MOST 1048576: true; the input reads as it did. -/
def fnRepeatKeysUptoRow : OpenClaim := { program := "ytndmidcilbghkaa", sum := "fc5e647591d47b79b144a619bfaeb5134a53b0e8c3f061d5b860fbecfeebaf60", func := "loop.example/texteditor/laws.FnRepeatKeys", spec := "fnRepeatKeys", inPlace := ["internal/bytealg.CountString", "internal/bytealg.IndexByteString", "internal/bytealg.IndexString"], named := ["internal/bytealg.MaxLen"], apart := false, narrowed := true }
def FnRepeatKeysUptoSaid : Prop := fnRepeatKeysUptoRow.holds Try.pinned (OpenSpec.upto fnRepeatKeysSpec)

/-- 'laws.FnDirtyNames', WHERE WHAT IT READS IS OF BULK AT MOST 1048576: true; the input reads as it did. -/
def fnDirtyNamesUptoRow : OpenClaim := { program := "ytndmidcilbghkaa", sum := "fc5e647591d47b79b144a619bfaeb5134a53b0e8c3f061d5b860fbecfeebaf60", func := "loop.example/texteditor/laws.FnDirtyNames", spec := "fnDirtyNames", inPlace := ["internal/bytealg.CountString", "internal/bytealg.IndexByteString", "internal/bytealg.IndexString"], unfollowed := true, recurses := true, named := ["internal/bytealg.MaxLen"], apart := false, narrowed := true }
def FnDirtyNamesUptoSaid : Prop := fnDirtyNamesUptoRow.holds Try.pinned (OpenSpec.upto fnDirtyNamesSpec)

end Rows
end Go.Proofs.Ytndmidcilbghkaa
