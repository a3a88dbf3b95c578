/-
  No cell of these rows narrows 'for every input' (looked for: loops, veiled, ifaces, maps, wideKeys, modest, calm, conditions, laid).
  DERIVED. THE GIVEN ROWS OF THIS SEAT. 12 by the template 'for every input the law returns true; each argument reads behind the call as it read before'; 0 by the template 'total and deterministic' (their statements: YtjcdklkdpcncgaaTotals.lean).
  GIVEN WITH THE SEED: the statements are not yours to turn. If you find one false, say at which input.
  Laid BY PROGRAM, IN A SANDBOX (cutbox-rows.mjs): the forced cells as the released guide's own fill.sh prints them over the translation ed58bef321e61f22… (all of the seat's roots in one cut). By AI agents, Wed Nov 11 2026. No macro, syntax, notation, axiom, sorry.
-/
import Derived.Test.YtjcdklkdpcncgaaChecked
import GoSem.Claim
import GoSem.ClaimJoined
import GoSem.ClaimMapViews
import Derived.JoinedTies
import Derived.KernelRfl
namespace Go.Proofs.Ytjcdklkdpcncgaa
/- THE CELL 'sum', in the pinned program and in every row, IS THE sha256 OF THE DUMP (.gsa) THAT YtjcdklkdpcncgaaProg.lean LOADS. Nothing in Lean hashes anything: it is a label: what it is worth is what the hold of that sum in a sandbox is worth. -/
noncomputable def Try.pinned : Pinned := { name := "ytjcdklkdpcncgaa", sum := "ed58bef321e61f226df3471301565ceba495212526e251b8ffef319a4021d392", checked := Try.checked }
namespace Rows
def none {H : Type} : Left H := { results := [], args := [] }

/-- 'laws.FnExactHistoryTo': WHATEVER THE INPUT: true; the input reads as it did. -/
def fnExactHistoryToSpec : ChangeSpec := { name := "fnExactHistoryTo", fn := fun _ => fun
  | [d1, d2, d3] => { results := [.lit (.bool true)], args := [d1, d2, d3] }
  | _ => none }
def fnExactHistoryToRow : OpenClaim := { program := "ytjcdklkdpcncgaa", sum := "ed58bef321e61f226df3471301565ceba495212526e251b8ffef319a4021d392", func := "loop.example/texteditor/laws.FnExactHistoryTo", spec := "fnExactHistoryTo", apart := false }
def FnExactHistoryToSaid : Prop := fnExactHistoryToRow.holds Try.pinned (OpenSpec.ofChange fnExactHistoryToSpec)

/-- ITS FALSE NEIGHBOUR: 'it returns false'. Refute it at one input. -/
def fnExactHistoryToWrong : ChangeSpec := { name := "fnExactHistoryTo", fn := fun _ => fun
  | [d1, d2, d3] => { results := [.lit (.bool false)], args := [d1, d2, d3] }
  | _ => none }
def FnExactHistoryToWrongFalsely : Prop := fnExactHistoryToRow.holds Try.pinned (OpenSpec.ofChange fnExactHistoryToWrong)

/-- 'laws.FnExactHistoryDo': WHATEVER THE INPUT: true; the input reads as it did. -/
def fnExactHistoryDoSpec : ChangeSpec := { name := "fnExactHistoryDo", fn := fun _ => fun
  | [d1, d2, d3] => { results := [.lit (.bool true)], args := [d1, d2, d3] }
  | _ => none }
def fnExactHistoryDoRow : OpenClaim := { program := "ytjcdklkdpcncgaa", sum := "ed58bef321e61f226df3471301565ceba495212526e251b8ffef319a4021d392", func := "loop.example/texteditor/laws.FnExactHistoryDo", spec := "fnExactHistoryDo", apart := false }
def FnExactHistoryDoSaid : Prop := fnExactHistoryDoRow.holds Try.pinned (OpenSpec.ofChange fnExactHistoryDoSpec)

/-- ITS FALSE NEIGHBOUR: 'it returns false'. Refute it at one input. -/
def fnExactHistoryDoWrong : ChangeSpec := { name := "fnExactHistoryDo", fn := fun _ => fun
  | [d1, d2, d3] => { results := [.lit (.bool false)], args := [d1, d2, d3] }
  | _ => none }
def FnExactHistoryDoWrongFalsely : Prop := fnExactHistoryDoRow.holds Try.pinned (OpenSpec.ofChange fnExactHistoryDoWrong)

/-- 'laws.FnExactHistoryBack': WHATEVER THE INPUT: true; the input reads as it did. -/
def fnExactHistoryBackSpec : ChangeSpec := { name := "fnExactHistoryBack", fn := fun _ => fun
  | [d1, d2] => { results := [.lit (.bool true)], args := [d1, d2] }
  | _ => none }
def fnExactHistoryBackRow : OpenClaim := { program := "ytjcdklkdpcncgaa", sum := "ed58bef321e61f226df3471301565ceba495212526e251b8ffef319a4021d392", func := "loop.example/texteditor/laws.FnExactHistoryBack", spec := "fnExactHistoryBack", apart := false }
def FnExactHistoryBackSaid : Prop := fnExactHistoryBackRow.holds Try.pinned (OpenSpec.ofChange fnExactHistoryBackSpec)

/-- ITS FALSE NEIGHBOUR: 'it returns false'. Refute it at one input. -/
def fnExactHistoryBackWrong : ChangeSpec := { name := "fnExactHistoryBack", fn := fun _ => fun
  | [d1, d2] => { results := [.lit (.bool false)], args := [d1, d2] }
  | _ => none }
def FnExactHistoryBackWrongFalsely : Prop := fnExactHistoryBackRow.holds Try.pinned (OpenSpec.ofChange fnExactHistoryBackWrong)

/-- 'laws.FnExactHistoryForth': WHATEVER THE INPUT: true; the input reads as it did. -/
def fnExactHistoryForthSpec : ChangeSpec := { name := "fnExactHistoryForth", fn := fun _ => fun
  | [d1, d2] => { results := [.lit (.bool true)], args := [d1, d2] }
  | _ => none }
def fnExactHistoryForthRow : OpenClaim := { program := "ytjcdklkdpcncgaa", sum := "ed58bef321e61f226df3471301565ceba495212526e251b8ffef319a4021d392", func := "loop.example/texteditor/laws.FnExactHistoryForth", spec := "fnExactHistoryForth", apart := false }
def FnExactHistoryForthSaid : Prop := fnExactHistoryForthRow.holds Try.pinned (OpenSpec.ofChange fnExactHistoryForthSpec)

/-- ITS FALSE NEIGHBOUR: 'it returns false'. Refute it at one input. -/
def fnExactHistoryForthWrong : ChangeSpec := { name := "fnExactHistoryForth", fn := fun _ => fun
  | [d1, d2] => { results := [.lit (.bool false)], args := [d1, d2] }
  | _ => none }
def FnExactHistoryForthWrongFalsely : Prop := fnExactHistoryForthRow.holds Try.pinned (OpenSpec.ofChange fnExactHistoryForthWrong)

/-- 'laws.FnHistoryOf': WHATEVER THE INPUT: true; the input reads as it did. -/
def fnHistoryOfSpec : ChangeSpec := { name := "fnHistoryOf", fn := fun _ => fun
  | [d] => { results := [.lit (.bool true)], args := [d] }
  | _ => none }
def fnHistoryOfRow : OpenClaim := { program := "ytjcdklkdpcncgaa", sum := "ed58bef321e61f226df3471301565ceba495212526e251b8ffef319a4021d392", func := "loop.example/texteditor/laws.FnHistoryOf", spec := "fnHistoryOf", inPlace := ["internal/bytealg.CountString", "internal/bytealg.IndexByteString", "internal/bytealg.IndexString"], named := ["internal/bytealg.MaxLen"], apart := false }
def FnHistoryOfSaid : Prop := fnHistoryOfRow.holds Try.pinned (OpenSpec.ofChange fnHistoryOfSpec)

/-- ITS FALSE NEIGHBOUR: 'it returns false'. Refute it at one input. -/
def fnHistoryOfWrong : ChangeSpec := { name := "fnHistoryOf", fn := fun _ => fun
  | [d] => { results := [.lit (.bool false)], args := [d] }
  | _ => none }
def FnHistoryOfWrongFalsely : Prop := fnHistoryOfRow.holds Try.pinned (OpenSpec.ofChange fnHistoryOfWrong)

/-- 'laws.FnHistoryTo': WHATEVER THE INPUT: true; the input reads as it did. -/
def fnHistoryToSpec : ChangeSpec := { name := "fnHistoryTo", fn := fun _ => fun
  | [d] => { results := [.lit (.bool true)], args := [d] }
  | _ => none }
def fnHistoryToRow : OpenClaim := { program := "ytjcdklkdpcncgaa", sum := "ed58bef321e61f226df3471301565ceba495212526e251b8ffef319a4021d392", func := "loop.example/texteditor/laws.FnHistoryTo", spec := "fnHistoryTo", inPlace := ["internal/bytealg.CountString", "internal/bytealg.IndexByteString", "internal/bytealg.IndexString"], named := ["internal/bytealg.MaxLen"], apart := false }
def FnHistoryToSaid : Prop := fnHistoryToRow.holds Try.pinned (OpenSpec.ofChange fnHistoryToSpec)

/-- ITS FALSE NEIGHBOUR: 'it returns false'. Refute it at one input. -/
def fnHistoryToWrong : ChangeSpec := { name := "fnHistoryTo", fn := fun _ => fun
  | [d] => { results := [.lit (.bool false)], args := [d] }
  | _ => none }
def FnHistoryToWrongFalsely : Prop := fnHistoryToRow.holds Try.pinned (OpenSpec.ofChange fnHistoryToWrong)

/-- 'laws.FnHistoryBack': WHATEVER THE INPUT: true; the input reads as it did. -/
def fnHistoryBackSpec : ChangeSpec := { name := "fnHistoryBack", fn := fun _ => fun
  | [d] => { results := [.lit (.bool true)], args := [d] }
  | _ => none }
def fnHistoryBackRow : OpenClaim := { program := "ytjcdklkdpcncgaa", sum := "ed58bef321e61f226df3471301565ceba495212526e251b8ffef319a4021d392", func := "loop.example/texteditor/laws.FnHistoryBack", spec := "fnHistoryBack", inPlace := ["internal/bytealg.CountString", "internal/bytealg.IndexByteString", "internal/bytealg.IndexString"], named := ["internal/bytealg.MaxLen"], apart := false }
def FnHistoryBackSaid : Prop := fnHistoryBackRow.holds Try.pinned (OpenSpec.ofChange fnHistoryBackSpec)

/-- ITS FALSE NEIGHBOUR: 'it returns false'. Refute it at one input. -/
def fnHistoryBackWrong : ChangeSpec := { name := "fnHistoryBack", fn := fun _ => fun
  | [d] => { results := [.lit (.bool false)], args := [d] }
  | _ => none }
def FnHistoryBackWrongFalsely : Prop := fnHistoryBackRow.holds Try.pinned (OpenSpec.ofChange fnHistoryBackWrong)

/-- 'laws.FnUndoAll': WHATEVER THE INPUT: true; the input reads as it did. -/
def fnUndoAllSpec : ChangeSpec := { name := "fnUndoAll", fn := fun _ => fun
  | [d] => { results := [.lit (.bool true)], args := [d] }
  | _ => none }
def fnUndoAllRow : OpenClaim := { program := "ytjcdklkdpcncgaa", sum := "ed58bef321e61f226df3471301565ceba495212526e251b8ffef319a4021d392", func := "loop.example/texteditor/laws.FnUndoAll", spec := "fnUndoAll", inPlace := ["internal/bytealg.CountString", "internal/bytealg.IndexByteString", "internal/bytealg.IndexString"], named := ["internal/bytealg.MaxLen"], apart := false }
def FnUndoAllSaid : Prop := fnUndoAllRow.holds Try.pinned (OpenSpec.ofChange fnUndoAllSpec)

/-- ITS FALSE NEIGHBOUR: 'it returns false'. Refute it at one input. -/
def fnUndoAllWrong : ChangeSpec := { name := "fnUndoAll", fn := fun _ => fun
  | [d] => { results := [.lit (.bool false)], args := [d] }
  | _ => none }
def FnUndoAllWrongFalsely : Prop := fnUndoAllRow.holds Try.pinned (OpenSpec.ofChange fnUndoAllWrong)

/-- 'laws.FnHistoryForth': WHATEVER THE INPUT: true; the input reads as it did. -/
def fnHistoryForthSpec : ChangeSpec := { name := "fnHistoryForth", fn := fun _ => fun
  | [d] => { results := [.lit (.bool true)], args := [d] }
  | _ => none }
def fnHistoryForthRow : OpenClaim := { program := "ytjcdklkdpcncgaa", sum := "ed58bef321e61f226df3471301565ceba495212526e251b8ffef319a4021d392", func := "loop.example/texteditor/laws.FnHistoryForth", spec := "fnHistoryForth", inPlace := ["internal/bytealg.CountString", "internal/bytealg.IndexByteString", "internal/bytealg.IndexString"], named := ["internal/bytealg.MaxLen"], apart := false }
def FnHistoryForthSaid : Prop := fnHistoryForthRow.holds Try.pinned (OpenSpec.ofChange fnHistoryForthSpec)

/-- ITS FALSE NEIGHBOUR: 'it returns false'. Refute it at one input. -/
def fnHistoryForthWrong : ChangeSpec := { name := "fnHistoryForth", fn := fun _ => fun
  | [d] => { results := [.lit (.bool false)], args := [d] }
  | _ => none }
def FnHistoryForthWrongFalsely : Prop := fnHistoryForthRow.holds Try.pinned (OpenSpec.ofChange fnHistoryForthWrong)

/-- 'laws.FnHistoryDo': WHATEVER THE INPUT: true; the input reads as it did. -/
def fnHistoryDoSpec : ChangeSpec := { name := "fnHistoryDo", fn := fun _ => fun
  | [d] => { results := [.lit (.bool true)], args := [d] }
  | _ => none }
def fnHistoryDoRow : OpenClaim := { program := "ytjcdklkdpcncgaa", sum := "ed58bef321e61f226df3471301565ceba495212526e251b8ffef319a4021d392", func := "loop.example/texteditor/laws.FnHistoryDo", spec := "fnHistoryDo", inPlace := ["internal/bytealg.CountString", "internal/bytealg.IndexByteString", "internal/bytealg.IndexString"], named := ["internal/bytealg.MaxLen"], apart := false }
def FnHistoryDoSaid : Prop := fnHistoryDoRow.holds Try.pinned (OpenSpec.ofChange fnHistoryDoSpec)

/-- ITS FALSE NEIGHBOUR: 'it returns false'. Refute it at one input. -/
def fnHistoryDoWrong : ChangeSpec := { name := "fnHistoryDo", fn := fun _ => fun
  | [d] => { results := [.lit (.bool false)], args := [d] }
  | _ => none }
def FnHistoryDoWrongFalsely : Prop := fnHistoryDoRow.holds Try.pinned (OpenSpec.ofChange fnHistoryDoWrong)

/-- 'laws.FnExactEditorFirst': WHATEVER THE INPUT: true; the input reads as it did. -/
def fnExactEditorFirstSpec : ChangeSpec := { name := "fnExactEditorFirst", fn := fun _ => fun
  | [d] => { results := [.lit (.bool true)], args := [d] }
  | _ => none }
def fnExactEditorFirstRow : OpenClaim := { program := "ytjcdklkdpcncgaa", sum := "ed58bef321e61f226df3471301565ceba495212526e251b8ffef319a4021d392", func := "loop.example/texteditor/laws.FnExactEditorFirst", spec := "fnExactEditorFirst", apart := false }
def FnExactEditorFirstSaid : Prop := fnExactEditorFirstRow.holds Try.pinned (OpenSpec.ofChange fnExactEditorFirstSpec)

/-- ITS FALSE NEIGHBOUR: 'it returns false'. Refute it at one input. -/
def fnExactEditorFirstWrong : ChangeSpec := { name := "fnExactEditorFirst", fn := fun _ => fun
  | [d] => { results := [.lit (.bool false)], args := [d] }
  | _ => none }
def FnExactEditorFirstWrongFalsely : Prop := fnExactEditorFirstRow.holds Try.pinned (OpenSpec.ofChange fnExactEditorFirstWrong)

/-- 'laws.FnExactEditorValid': WHATEVER THE INPUT: true; the input reads as it did. -/
def fnExactEditorValidSpec : ChangeSpec := { name := "fnExactEditorValid", fn := fun _ => fun
  | [d] => { results := [.lit (.bool true)], args := [d] }
  | _ => none }
def fnExactEditorValidRow : OpenClaim := { program := "ytjcdklkdpcncgaa", sum := "ed58bef321e61f226df3471301565ceba495212526e251b8ffef319a4021d392", func := "loop.example/texteditor/laws.FnExactEditorValid", spec := "fnExactEditorValid", apart := false }
def FnExactEditorValidSaid : Prop := fnExactEditorValidRow.holds Try.pinned (OpenSpec.ofChange fnExactEditorValidSpec)

/-- ITS FALSE NEIGHBOUR: 'it returns false'. Refute it at one input. -/
def fnExactEditorValidWrong : ChangeSpec := { name := "fnExactEditorValid", fn := fun _ => fun
  | [d] => { results := [.lit (.bool false)], args := [d] }
  | _ => none }
def FnExactEditorValidWrongFalsely : Prop := fnExactEditorValidRow.holds Try.pinned (OpenSpec.ofChange fnExactEditorValidWrong)

/- THE SECOND FORM. 'bulk': how many values and letters a reading holds, each counted each time it is reached (what is shared counts as often as it is met; a slice's spare places count too). A statement '..UptoSaid' is the law's where the arguments, and the package variables that the reading takes, are together of bulk at most 1048576: NARROWER than '..Said'. Prove '..Said' where nothing that the law and all that it calls make is longer than what came in: it says more and counts as full. Else prove '..UptoSaid'. A law counts once. -/
mutual
def uptoBulk {H : Type} : DataW H → Nat
  | .lit (.string bytes) => bytes.length + 1
  | .lit _ => 1
  | .nil => 1
  | .ptr d => uptoBulk d + 1
  | .slice elems spare => uptoBulkAll elems + uptoBulkAll spare + 1
  | .agg parts => uptoBulkAll parts + 1
  | .iface _ d => uptoBulk d + 1
  | .map entries => uptoBulkEntries entries + 1
  | .held _ => 1
def uptoBulkAll {H : Type} : List (DataW H) → Nat
  | [] => 0
  | d :: r => uptoBulk d + uptoBulkAll r
def uptoBulkEntries {H : Type} : List (Lit × DataW H) → Nat
  | [] => 0
  | x :: r => uptoBulkEntry x + uptoBulkEntries r
def uptoBulkEntry {H : Type} : Lit × DataW H → Nat
  | (.string bytes, d) => bytes.length + uptoBulk d + 1
  | (_, d) => uptoBulk d + 1
 end
def uptoSmall : (H : Type) → List (DataW H) → Bool := fun _ ds => decide (uptoBulkAll ds ≤ 1048576)
def OpenSpec.upto (s : _root_.Go.ChangeSpec) : _root_.Go.OpenSpec := { _root_.Go.OpenSpec.ofChange s with cond := some uptoSmall }

/-- 'laws.FnExactHistoryTo', WHERE WHAT IT READS IS OF BULK AT MOST 1048576: true; the input reads as it did. -/
def fnExactHistoryToUptoRow : OpenClaim := { program := "ytjcdklkdpcncgaa", sum := "ed58bef321e61f226df3471301565ceba495212526e251b8ffef319a4021d392", func := "loop.example/texteditor/laws.FnExactHistoryTo", spec := "fnExactHistoryTo", apart := false, narrowed := true }
def FnExactHistoryToUptoSaid : Prop := fnExactHistoryToUptoRow.holds Try.pinned (OpenSpec.upto fnExactHistoryToSpec)

/-- 'laws.FnExactHistoryDo', WHERE WHAT IT READS IS OF BULK AT MOST 1048576: true; the input reads as it did. -/
def fnExactHistoryDoUptoRow : OpenClaim := { program := "ytjcdklkdpcncgaa", sum := "ed58bef321e61f226df3471301565ceba495212526e251b8ffef319a4021d392", func := "loop.example/texteditor/laws.FnExactHistoryDo", spec := "fnExactHistoryDo", apart := false, narrowed := true }
def FnExactHistoryDoUptoSaid : Prop := fnExactHistoryDoUptoRow.holds Try.pinned (OpenSpec.upto fnExactHistoryDoSpec)

/-- 'laws.FnExactHistoryBack', WHERE WHAT IT READS IS OF BULK AT MOST 1048576: true; the input reads as it did. -/
def fnExactHistoryBackUptoRow : OpenClaim := { program := "ytjcdklkdpcncgaa", sum := "ed58bef321e61f226df3471301565ceba495212526e251b8ffef319a4021d392", func := "loop.example/texteditor/laws.FnExactHistoryBack", spec := "fnExactHistoryBack", apart := false, narrowed := true }
def FnExactHistoryBackUptoSaid : Prop := fnExactHistoryBackUptoRow.holds Try.pinned (OpenSpec.upto fnExactHistoryBackSpec)

/-- 'laws.FnExactHistoryForth', WHERE WHAT IT READS IS OF BULK AT MOST 1048576: true; the input reads as it did. -/
def fnExactHistoryForthUptoRow : OpenClaim := { program := "ytjcdklkdpcncgaa", sum := "ed58bef321e61f226df3471301565ceba495212526e251b8ffef319a4021d392", func := "loop.example/texteditor/laws.FnExactHistoryForth", spec := "fnExactHistoryForth", apart := false, narrowed := true }
def FnExactHistoryForthUptoSaid : Prop := fnExactHistoryForthUptoRow.holds Try.pinned (OpenSpec.upto fnExactHistoryForthSpec)

/-- 'laws.FnHistoryOf', WHERE WHAT IT READS IS OF BULK AT MOST 1048576: true; the input reads as it did. -/
def fnHistoryOfUptoRow : OpenClaim := { program := "ytjcdklkdpcncgaa", sum := "ed58bef321e61f226df3471301565ceba495212526e251b8ffef319a4021d392", func := "loop.example/texteditor/laws.FnHistoryOf", spec := "fnHistoryOf", inPlace := ["internal/bytealg.CountString", "internal/bytealg.IndexByteString", "internal/bytealg.IndexString"], named := ["internal/bytealg.MaxLen"], apart := false, narrowed := true }
def FnHistoryOfUptoSaid : Prop := fnHistoryOfUptoRow.holds Try.pinned (OpenSpec.upto fnHistoryOfSpec)

/-- 'laws.FnHistoryTo', WHERE WHAT IT READS IS OF BULK AT MOST 1048576: true; the input reads as it did. -/
def fnHistoryToUptoRow : OpenClaim := { program := "ytjcdklkdpcncgaa", sum := "ed58bef321e61f226df3471301565ceba495212526e251b8ffef319a4021d392", func := "loop.example/texteditor/laws.FnHistoryTo", spec := "fnHistoryTo", inPlace := ["internal/bytealg.CountString", "internal/bytealg.IndexByteString", "internal/bytealg.IndexString"], named := ["internal/bytealg.MaxLen"], apart := false, narrowed := true }
def FnHistoryToUptoSaid : Prop := fnHistoryToUptoRow.holds Try.pinned (OpenSpec.upto fnHistoryToSpec)

/-- 'laws.FnHistoryBack', WHERE WHAT IT READS IS OF BULK AT MOST 1048576: true; the input reads as it did. -/
def fnHistoryBackUptoRow : OpenClaim := { program := "ytjcdklkdpcncgaa", sum := "ed58bef321e61f226df3471301565ceba495212526e251b8ffef319a4021d392", func := "loop.example/texteditor/laws.FnHistoryBack", spec := "fnHistoryBack", inPlace := ["internal/bytealg.CountString", "internal/bytealg.IndexByteString", "internal/bytealg.IndexString"], named := ["internal/bytealg.MaxLen"], apart := false, narrowed := true }
def FnHistoryBackUptoSaid : Prop := fnHistoryBackUptoRow.holds Try.pinned (OpenSpec.upto fnHistoryBackSpec)

/-- 'laws.FnUndoAll', WHERE WHAT IT READS IS OF BULK AT MOST 1048576: true; the input reads as it did. -/
def fnUndoAllUptoRow : OpenClaim := { program := "ytjcdklkdpcncgaa", sum := "ed58bef321e61f226df3471301565ceba495212526e251b8ffef319a4021d392", func := "loop.example/texteditor/laws.FnUndoAll", spec := "fnUndoAll", inPlace := ["internal/bytealg.CountString", "internal/bytealg.IndexByteString", "internal/bytealg.IndexString"], named := ["internal/bytealg.MaxLen"], apart := false, narrowed := true }
def FnUndoAllUptoSaid : Prop := fnUndoAllUptoRow.holds Try.pinned (OpenSpec.upto fnUndoAllSpec)

/-- 'laws.FnHistoryForth', WHERE WHAT IT READS IS OF BULK AT MOST 1048576: true; the input reads as it did. -/
def fnHistoryForthUptoRow : OpenClaim := { program := "ytjcdklkdpcncgaa", sum := "ed58bef321e61f226df3471301565ceba495212526e251b8ffef319a4021d392", func := "loop.example/texteditor/laws.FnHistoryForth", spec := "fnHistoryForth", inPlace := ["internal/bytealg.CountString", "internal/bytealg.IndexByteString", "internal/bytealg.IndexString"], named := ["internal/bytealg.MaxLen"], apart := false, narrowed := true }
def FnHistoryForthUptoSaid : Prop := fnHistoryForthUptoRow.holds Try.pinned (OpenSpec.upto fnHistoryForthSpec)

/-- 'laws.FnHistoryDo', WHERE WHAT IT READS IS OF BULK AT MOST 1048576: true; the input reads as it did. -/
def fnHistoryDoUptoRow : OpenClaim := { program := "ytjcdklkdpcncgaa", sum := "ed58bef321e61f226df3471301565ceba495212526e251b8ffef319a4021d392", func := "loop.example/texteditor/laws.FnHistoryDo", spec := "fnHistoryDo", inPlace := ["internal/bytealg.CountString", "internal/bytealg.IndexByteString", "internal/bytealg.IndexString"], named := ["internal/bytealg.MaxLen"], apart := false, narrowed := true }
def FnHistoryDoUptoSaid : Prop := fnHistoryDoUptoRow.holds Try.pinned (OpenSpec.upto fnHistoryDoSpec)

/-- 'laws.FnExactEditorFirst', WHERE WHAT IT READS IS OF BULK AT MOST 1048576: true; the input reads as it did. -/
def fnExactEditorFirstUptoRow : OpenClaim := { program := "ytjcdklkdpcncgaa", sum := "ed58bef321e61f226df3471301565ceba495212526e251b8ffef319a4021d392", func := "loop.example/texteditor/laws.FnExactEditorFirst", spec := "fnExactEditorFirst", apart := false, narrowed := true }
def FnExactEditorFirstUptoSaid : Prop := fnExactEditorFirstUptoRow.holds Try.pinned (OpenSpec.upto fnExactEditorFirstSpec)

/-- 'laws.FnExactEditorValid', WHERE WHAT IT READS IS OF BULK AT MOST 1048576: true; the input reads as it did. -/
def fnExactEditorValidUptoRow : OpenClaim := { program := "ytjcdklkdpcncgaa", sum := "ed58bef321e61f226df3471301565ceba495212526e251b8ffef319a4021d392", func := "loop.example/texteditor/laws.FnExactEditorValid", spec := "fnExactEditorValid", apart := false, narrowed := true }
def FnExactEditorValidUptoSaid : Prop := fnExactEditorValidUptoRow.holds Try.pinned (OpenSpec.upto fnExactEditorValidSpec)

end Rows
end Go.Proofs.Ytjcdklkdpcncgaa
