/-
  No cell of these rows narrows 'for every input' (looked for: loops, veiled, ifaces, maps, wideKeys, modest, calm, conditions, laid).
  DERIVED. THE GIVEN ROWS OF THIS SEAT. 12 by the template 'for every input the law returns true; each argument reads behind the call as it read before'; 0 by the template 'total and deterministic' (their statements: YtiimlnefighlgaaTotals.lean).
  GIVEN WITH THE SEED: the statements are not yours to turn. If you find one false, say at which input.
  Laid BY PROGRAM, IN A SANDBOX (cutbox-rows.mjs): the forced cells as the released guide's own fill.sh prints them over the translation f643d8e20a53e104… (all of the seat's roots in one cut). By AI agents, Wed Nov 11 2026. No macro, syntax, notation, axiom, sorry.
-/
import Derived.Test.YtiimlnefighlgaaChecked
import GoSem.Claim
import GoSem.ClaimJoined
import GoSem.ClaimMapViews
import Derived.JoinedTies
import Derived.KernelRfl
namespace Go.Proofs.Ytiimlnefighlgaa
/- THE CELL 'sum', in the pinned program and in every row, IS THE sha256 OF THE DUMP (.gsa) THAT YtiimlnefighlgaaProg.lean LOADS. Nothing in Lean hashes anything: it is a label: what it is worth is what the hold of that sum in a sandbox is worth. -/
noncomputable def Try.pinned : Pinned := { name := "ytiimlnefighlgaa", sum := "f643d8e20a53e1042e55aefabe80cd1bcc12ee759d79abe6988fb2ca24d95aef", checked := Try.checked }
namespace Rows
def none {H : Type} : Left H := { results := [], args := [] }

/-- 'laws.FnExactViewValid': WHATEVER THE INPUT: true; the input reads as it did. -/
def fnExactViewValidSpec : ChangeSpec := { name := "fnExactViewValid", fn := fun _ => fun
  | [d1, d2] => { results := [.lit (.bool true)], args := [d1, d2] }
  | _ => none }
def fnExactViewValidRow : OpenClaim := { program := "ytiimlnefighlgaa", sum := "f643d8e20a53e1042e55aefabe80cd1bcc12ee759d79abe6988fb2ca24d95aef", func := "loop.example/texteditor/laws.FnExactViewValid", spec := "fnExactViewValid", apart := false }
def FnExactViewValidSaid : Prop := fnExactViewValidRow.holds Try.pinned (OpenSpec.ofChange fnExactViewValidSpec)

/-- ITS FALSE NEIGHBOUR: 'it returns false'. Refute it at one input. -/
def fnExactViewValidWrong : ChangeSpec := { name := "fnExactViewValid", fn := fun _ => fun
  | [d1, d2] => { results := [.lit (.bool false)], args := [d1, d2] }
  | _ => none }
def FnExactViewValidWrongFalsely : Prop := fnExactViewValidRow.holds Try.pinned (OpenSpec.ofChange fnExactViewValidWrong)

/-- 'laws.FnExactScrollView': WHATEVER THE INPUT: true; the input reads as it did. -/
def fnExactScrollViewSpec : ChangeSpec := { name := "fnExactScrollView", fn := fun _ => fun
  | [d1, d2, d3] => { results := [.lit (.bool true)], args := [d1, d2, d3] }
  | _ => none }
def fnExactScrollViewRow : OpenClaim := { program := "ytiimlnefighlgaa", sum := "f643d8e20a53e1042e55aefabe80cd1bcc12ee759d79abe6988fb2ca24d95aef", func := "loop.example/texteditor/laws.FnExactScrollView", spec := "fnExactScrollView", apart := false }
def FnExactScrollViewSaid : Prop := fnExactScrollViewRow.holds Try.pinned (OpenSpec.ofChange fnExactScrollViewSpec)

/-- ITS FALSE NEIGHBOUR: 'it returns false'. Refute it at one input. -/
def fnExactScrollViewWrong : ChangeSpec := { name := "fnExactScrollView", fn := fun _ => fun
  | [d1, d2, d3] => { results := [.lit (.bool false)], args := [d1, d2, d3] }
  | _ => none }
def FnExactScrollViewWrongFalsely : Prop := fnExactScrollViewRow.holds Try.pinned (OpenSpec.ofChange fnExactScrollViewWrong)

/-- 'laws.FnExactShowRow': WHATEVER THE INPUT: true; the input reads as it did. -/
def fnExactShowRowSpec : ChangeSpec := { name := "fnExactShowRow", fn := fun _ => fun
  | [d1, d2, d3] => { results := [.lit (.bool true)], args := [d1, d2, d3] }
  | _ => none }
def fnExactShowRowRow : OpenClaim := { program := "ytiimlnefighlgaa", sum := "f643d8e20a53e1042e55aefabe80cd1bcc12ee759d79abe6988fb2ca24d95aef", func := "loop.example/texteditor/laws.FnExactShowRow", spec := "fnExactShowRow", apart := false }
def FnExactShowRowSaid : Prop := fnExactShowRowRow.holds Try.pinned (OpenSpec.ofChange fnExactShowRowSpec)

/-- ITS FALSE NEIGHBOUR: 'it returns false'. Refute it at one input. -/
def fnExactShowRowWrong : ChangeSpec := { name := "fnExactShowRow", fn := fun _ => fun
  | [d1, d2, d3] => { results := [.lit (.bool false)], args := [d1, d2, d3] }
  | _ => none }
def FnExactShowRowWrongFalsely : Prop := fnExactShowRowRow.holds Try.pinned (OpenSpec.ofChange fnExactShowRowWrong)

/-- 'laws.FnExactShownRows': WHATEVER THE INPUT: true; the input reads as it did. -/
def fnExactShownRowsSpec : ChangeSpec := { name := "fnExactShownRows", fn := fun _ => fun
  | [d1, d2] => { results := [.lit (.bool true)], args := [d1, d2] }
  | _ => none }
def fnExactShownRowsRow : OpenClaim := { program := "ytiimlnefighlgaa", sum := "f643d8e20a53e1042e55aefabe80cd1bcc12ee759d79abe6988fb2ca24d95aef", func := "loop.example/texteditor/laws.FnExactShownRows", spec := "fnExactShownRows", apart := false }
def FnExactShownRowsSaid : Prop := fnExactShownRowsRow.holds Try.pinned (OpenSpec.ofChange fnExactShownRowsSpec)

/-- ITS FALSE NEIGHBOUR: 'it returns false'. Refute it at one input. -/
def fnExactShownRowsWrong : ChangeSpec := { name := "fnExactShownRows", fn := fun _ => fun
  | [d1, d2] => { results := [.lit (.bool false)], args := [d1, d2] }
  | _ => none }
def FnExactShownRowsWrongFalsely : Prop := fnExactShownRowsRow.holds Try.pinned (OpenSpec.ofChange fnExactShownRowsWrong)

/-- 'laws.FnExactBuffersValid': WHATEVER THE INPUT: true; the input reads as it did. -/
def fnExactBuffersValidSpec : ChangeSpec := { name := "fnExactBuffersValid", fn := fun _ => fun
  | [d] => { results := [.lit (.bool true)], args := [d] }
  | _ => none }
def fnExactBuffersValidRow : OpenClaim := { program := "ytiimlnefighlgaa", sum := "f643d8e20a53e1042e55aefabe80cd1bcc12ee759d79abe6988fb2ca24d95aef", func := "loop.example/texteditor/laws.FnExactBuffersValid", spec := "fnExactBuffersValid", unfollowed := true, recurses := true, apart := false }
def FnExactBuffersValidSaid : Prop := fnExactBuffersValidRow.holds Try.pinned (OpenSpec.ofChange fnExactBuffersValidSpec)

/-- ITS FALSE NEIGHBOUR: 'it returns false'. Refute it at one input. -/
def fnExactBuffersValidWrong : ChangeSpec := { name := "fnExactBuffersValid", fn := fun _ => fun
  | [d] => { results := [.lit (.bool false)], args := [d] }
  | _ => none }
def FnExactBuffersValidWrongFalsely : Prop := fnExactBuffersValidRow.holds Try.pinned (OpenSpec.ofChange fnExactBuffersValidWrong)

/-- 'laws.FnExactEditorOf': WHATEVER THE INPUT: true; the input reads as it did. -/
def fnExactEditorOfSpec : ChangeSpec := { name := "fnExactEditorOf", fn := fun _ => fun
  | [d] => { results := [.lit (.bool true)], args := [d] }
  | _ => none }
def fnExactEditorOfRow : OpenClaim := { program := "ytiimlnefighlgaa", sum := "f643d8e20a53e1042e55aefabe80cd1bcc12ee759d79abe6988fb2ca24d95aef", func := "loop.example/texteditor/laws.FnExactEditorOf", spec := "fnExactEditorOf", apart := false }
def FnExactEditorOfSaid : Prop := fnExactEditorOfRow.holds Try.pinned (OpenSpec.ofChange fnExactEditorOfSpec)

/-- ITS FALSE NEIGHBOUR: 'it returns false'. Refute it at one input. -/
def fnExactEditorOfWrong : ChangeSpec := { name := "fnExactEditorOf", fn := fun _ => fun
  | [d] => { results := [.lit (.bool false)], args := [d] }
  | _ => none }
def FnExactEditorOfWrongFalsely : Prop := fnExactEditorOfRow.holds Try.pinned (OpenSpec.ofChange fnExactEditorOfWrong)

/-- 'laws.FnViewValid': WHATEVER THE INPUT: true; the input reads as it did. -/
def fnViewValidSpec : ChangeSpec := { name := "fnViewValid", fn := fun _ => fun
  | [d] => { results := [.lit (.bool true)], args := [d] }
  | _ => none }
def fnViewValidRow : OpenClaim := { program := "ytiimlnefighlgaa", sum := "f643d8e20a53e1042e55aefabe80cd1bcc12ee759d79abe6988fb2ca24d95aef", func := "loop.example/texteditor/laws.FnViewValid", spec := "fnViewValid", inPlace := ["internal/bytealg.CountString", "internal/bytealg.IndexByteString", "internal/bytealg.IndexString"], named := ["internal/bytealg.MaxLen"], apart := false }
def FnViewValidSaid : Prop := fnViewValidRow.holds Try.pinned (OpenSpec.ofChange fnViewValidSpec)

/-- ITS FALSE NEIGHBOUR: 'it returns false'. Refute it at one input. -/
def fnViewValidWrong : ChangeSpec := { name := "fnViewValid", fn := fun _ => fun
  | [d] => { results := [.lit (.bool false)], args := [d] }
  | _ => none }
def FnViewValidWrongFalsely : Prop := fnViewValidRow.holds Try.pinned (OpenSpec.ofChange fnViewValidWrong)

/-- 'laws.FnScrollView': WHATEVER THE INPUT: true; the input reads as it did. -/
def fnScrollViewSpec : ChangeSpec := { name := "fnScrollView", fn := fun _ => fun
  | [d] => { results := [.lit (.bool true)], args := [d] }
  | _ => none }
def fnScrollViewRow : OpenClaim := { program := "ytiimlnefighlgaa", sum := "f643d8e20a53e1042e55aefabe80cd1bcc12ee759d79abe6988fb2ca24d95aef", func := "loop.example/texteditor/laws.FnScrollView", spec := "fnScrollView", inPlace := ["internal/bytealg.CountString", "internal/bytealg.IndexByteString", "internal/bytealg.IndexString"], named := ["internal/bytealg.MaxLen"], apart := false }
def FnScrollViewSaid : Prop := fnScrollViewRow.holds Try.pinned (OpenSpec.ofChange fnScrollViewSpec)

/-- ITS FALSE NEIGHBOUR: 'it returns false'. Refute it at one input. -/
def fnScrollViewWrong : ChangeSpec := { name := "fnScrollView", fn := fun _ => fun
  | [d] => { results := [.lit (.bool false)], args := [d] }
  | _ => none }
def FnScrollViewWrongFalsely : Prop := fnScrollViewRow.holds Try.pinned (OpenSpec.ofChange fnScrollViewWrong)

/-- 'laws.FnShowRow': WHATEVER THE INPUT: true; the input reads as it did. -/
def fnShowRowSpec : ChangeSpec := { name := "fnShowRow", fn := fun _ => fun
  | [d] => { results := [.lit (.bool true)], args := [d] }
  | _ => none }
def fnShowRowRow : OpenClaim := { program := "ytiimlnefighlgaa", sum := "f643d8e20a53e1042e55aefabe80cd1bcc12ee759d79abe6988fb2ca24d95aef", func := "loop.example/texteditor/laws.FnShowRow", spec := "fnShowRow", inPlace := ["internal/bytealg.CountString", "internal/bytealg.IndexByteString", "internal/bytealg.IndexString"], named := ["internal/bytealg.MaxLen"], apart := false }
def FnShowRowSaid : Prop := fnShowRowRow.holds Try.pinned (OpenSpec.ofChange fnShowRowSpec)

/-- ITS FALSE NEIGHBOUR: 'it returns false'. Refute it at one input. -/
def fnShowRowWrong : ChangeSpec := { name := "fnShowRow", fn := fun _ => fun
  | [d] => { results := [.lit (.bool false)], args := [d] }
  | _ => none }
def FnShowRowWrongFalsely : Prop := fnShowRowRow.holds Try.pinned (OpenSpec.ofChange fnShowRowWrong)

/-- 'laws.FnShownRows': WHATEVER THE INPUT: true; the input reads as it did. -/
def fnShownRowsSpec : ChangeSpec := { name := "fnShownRows", fn := fun _ => fun
  | [d] => { results := [.lit (.bool true)], args := [d] }
  | _ => none }
def fnShownRowsRow : OpenClaim := { program := "ytiimlnefighlgaa", sum := "f643d8e20a53e1042e55aefabe80cd1bcc12ee759d79abe6988fb2ca24d95aef", func := "loop.example/texteditor/laws.FnShownRows", spec := "fnShownRows", inPlace := ["internal/bytealg.CountString", "internal/bytealg.IndexByteString", "internal/bytealg.IndexString"], named := ["internal/bytealg.MaxLen"], apart := false }
def FnShownRowsSaid : Prop := fnShownRowsRow.holds Try.pinned (OpenSpec.ofChange fnShownRowsSpec)

/-- ITS FALSE NEIGHBOUR: 'it returns false'. Refute it at one input. -/
def fnShownRowsWrong : ChangeSpec := { name := "fnShownRows", fn := fun _ => fun
  | [d] => { results := [.lit (.bool false)], args := [d] }
  | _ => none }
def FnShownRowsWrongFalsely : Prop := fnShownRowsRow.holds Try.pinned (OpenSpec.ofChange fnShownRowsWrong)

/-- 'laws.FnExactOpenBuffer': WHATEVER THE INPUT: true; the input reads as it did. -/
def fnExactOpenBufferSpec : ChangeSpec := { name := "fnExactOpenBuffer", fn := fun _ => fun
  | [d1, d2, d3] => { results := [.lit (.bool true)], args := [d1, d2, d3] }
  | _ => none }
def fnExactOpenBufferRow : OpenClaim := { program := "ytiimlnefighlgaa", sum := "f643d8e20a53e1042e55aefabe80cd1bcc12ee759d79abe6988fb2ca24d95aef", func := "loop.example/texteditor/laws.FnExactOpenBuffer", spec := "fnExactOpenBuffer", unfollowed := true, recurses := true, apart := false }
def FnExactOpenBufferSaid : Prop := fnExactOpenBufferRow.holds Try.pinned (OpenSpec.ofChange fnExactOpenBufferSpec)

/-- ITS FALSE NEIGHBOUR: 'it returns false'. Refute it at one input. -/
def fnExactOpenBufferWrong : ChangeSpec := { name := "fnExactOpenBuffer", fn := fun _ => fun
  | [d1, d2, d3] => { results := [.lit (.bool false)], args := [d1, d2, d3] }
  | _ => none }
def FnExactOpenBufferWrongFalsely : Prop := fnExactOpenBufferRow.holds Try.pinned (OpenSpec.ofChange fnExactOpenBufferWrong)

/-- 'laws.FnExactDirtyNames': WHATEVER THE INPUT: true; the input reads as it did. -/
def fnExactDirtyNamesSpec : ChangeSpec := { name := "fnExactDirtyNames", fn := fun _ => fun
  | [d] => { results := [.lit (.bool true)], args := [d] }
  | _ => none }
def fnExactDirtyNamesRow : OpenClaim := { program := "ytiimlnefighlgaa", sum := "f643d8e20a53e1042e55aefabe80cd1bcc12ee759d79abe6988fb2ca24d95aef", func := "loop.example/texteditor/laws.FnExactDirtyNames", spec := "fnExactDirtyNames", unfollowed := true, recurses := true, apart := false }
def FnExactDirtyNamesSaid : Prop := fnExactDirtyNamesRow.holds Try.pinned (OpenSpec.ofChange fnExactDirtyNamesSpec)

/-- ITS FALSE NEIGHBOUR: 'it returns false'. Refute it at one input. -/
def fnExactDirtyNamesWrong : ChangeSpec := { name := "fnExactDirtyNames", fn := fun _ => fun
  | [d] => { results := [.lit (.bool false)], args := [d] }
  | _ => none }
def FnExactDirtyNamesWrongFalsely : Prop := fnExactDirtyNamesRow.holds Try.pinned (OpenSpec.ofChange fnExactDirtyNamesWrong)

/- THE SECOND FORM. 'bulk': how many values and letters a reading holds, each counted each time it is reached (what is shared counts as often as it is met; a slice's spare places count too). A statement '..UptoSaid' is the law's where the arguments, and the package variables that the reading takes, are together of bulk at most 1048576: NARROWER than '..Said'. Prove '..Said' where nothing that the law and all that it calls make is longer than what came in: it says more and counts as full. Else prove '..UptoSaid'. A law counts once. -/
mutual
def uptoBulk {H : Type} : DataW H → Nat
  | .lit (.string bytes) => bytes.length + 1
  | .lit _ => 1
  | .nil => 1
  | .ptr d => uptoBulk d + 1
  | .slice elems spare => uptoBulkAll elems + uptoBulkAll spare + 1
  | .agg parts => uptoBulkAll parts + 1
  | .iface _ d => uptoBulk d + 1
  | .map entries => uptoBulkEntries entries + 1
  | .held _ => 1
def uptoBulkAll {H : Type} : List (DataW H) → Nat
  | [] => 0
  | d :: r => uptoBulk d + uptoBulkAll r
def uptoBulkEntries {H : Type} : List (Lit × DataW H) → Nat
  | [] => 0
  | x :: r => uptoBulkEntry x + uptoBulkEntries r
def uptoBulkEntry {H : Type} : Lit × DataW H → Nat
  | (.string bytes, d) => bytes.length + uptoBulk d + 1
  | (_, d) => uptoBulk d + 1
 end
def uptoSmall : (H : Type) → List (DataW H) → Bool := fun _ ds => decide (uptoBulkAll ds ≤ 1048576)
def OpenSpec.upto (s : _root_.Go.ChangeSpec) : _root_.Go.OpenSpec := { _root_.Go.OpenSpec.ofChange s with cond := some uptoSmall }

/-- 'laws.FnExactViewValid', WHERE WHAT IT READS IS OF BULK AT MOST 1048576: true; the input reads as it did. -/
def fnExactViewValidUptoRow : OpenClaim := { program := "ytiimlnefighlgaa", sum := "f643d8e20a53e1042e55aefabe80cd1bcc12ee759d79abe6988fb2ca24d95aef", func := "loop.example/texteditor/laws.FnExactViewValid", spec := "fnExactViewValid", apart := false, narrowed := true }
def FnExactViewValidUptoSaid : Prop := fnExactViewValidUptoRow.holds Try.pinned (OpenSpec.upto fnExactViewValidSpec)

/-- 'laws.FnExactScrollView', WHERE WHAT IT READS IS OF BULK AT MOST 1048576: true; the input reads as it did. -/
def fnExactScrollViewUptoRow : OpenClaim := { program := "ytiimlnefighlgaa", sum := "f643d8e20a53e1042e55aefabe80cd1bcc12ee759d79abe6988fb2ca24d95aef", func := "loop.example/texteditor/laws.FnExactScrollView", spec := "fnExactScrollView", apart := false, narrowed := true }
def FnExactScrollViewUptoSaid : Prop := fnExactScrollViewUptoRow.holds Try.pinned (OpenSpec.upto fnExactScrollViewSpec)

/-- 'laws.FnExactShowRow', WHERE WHAT IT READS IS OF BULK AT MOST 1048576: true; the input reads as it did. -/
def fnExactShowRowUptoRow : OpenClaim := { program := "ytiimlnefighlgaa", sum := "f643d8e20a53e1042e55aefabe80cd1bcc12ee759d79abe6988fb2ca24d95aef", func := "loop.example/texteditor/laws.FnExactShowRow", spec := "fnExactShowRow", apart := false, narrowed := true }
def FnExactShowRowUptoSaid : Prop := fnExactShowRowUptoRow.holds Try.pinned (OpenSpec.upto fnExactShowRowSpec)

/-- 'laws.FnExactShownRows', WHERE WHAT IT READS IS OF BULK AT MOST 1048576: true; the input reads as it did. -/
def fnExactShownRowsUptoRow : OpenClaim := { program := "ytiimlnefighlgaa", sum := "f643d8e20a53e1042e55aefabe80cd1bcc12ee759d79abe6988fb2ca24d95aef", func := "loop.example/texteditor/laws.FnExactShownRows", spec := "fnExactShownRows", apart := false, narrowed := true }
def FnExactShownRowsUptoSaid : Prop := fnExactShownRowsUptoRow.holds Try.pinned (OpenSpec.upto fnExactShownRowsSpec)

/-- 'laws.FnExactBuffersValid', WHERE WHAT IT READS IS OF BULK AT MOST 1048576: true; the input reads as it did. -/
def fnExactBuffersValidUptoRow : OpenClaim := { program := "ytiimlnefighlgaa", sum := "f643d8e20a53e1042e55aefabe80cd1bcc12ee759d79abe6988fb2ca24d95aef", func := "loop.example/texteditor/laws.FnExactBuffersValid", spec := "fnExactBuffersValid", unfollowed := true, recurses := true, apart := false, narrowed := true }
def FnExactBuffersValidUptoSaid : Prop := fnExactBuffersValidUptoRow.holds Try.pinned (OpenSpec.upto fnExactBuffersValidSpec)

/-- 'laws.FnExactEditorOf', WHERE WHAT IT READS IS OF BULK AT MOST 1048576: true; the input reads as it did. -/
def fnExactEditorOfUptoRow : OpenClaim := { program := "ytiimlnefighlgaa", sum := "f643d8e20a53e1042e55aefabe80cd1bcc12ee759d79abe6988fb2ca24d95aef", func := "loop.example/texteditor/laws.FnExactEditorOf", spec := "fnExactEditorOf", apart := false, narrowed := true }
def FnExactEditorOfUptoSaid : Prop := fnExactEditorOfUptoRow.holds Try.pinned (OpenSpec.upto fnExactEditorOfSpec)

/-- 'laws.FnViewValid', WHERE WHAT IT READS IS OF BULK AT MOST 1048576: true; the input reads as it did. -/
def fnViewValidUptoRow : OpenClaim := { program := "ytiimlnefighlgaa", sum := "f643d8e20a53e1042e55aefabe80cd1bcc12ee759d79abe6988fb2ca24d95aef", func := "loop.example/texteditor/laws.FnViewValid", spec := "fnViewValid", inPlace := ["internal/bytealg.CountString", "internal/bytealg.IndexByteString", "internal/bytealg.IndexString"], named := ["internal/bytealg.MaxLen"], apart := false, narrowed := true }
def FnViewValidUptoSaid : Prop := fnViewValidUptoRow.holds Try.pinned (OpenSpec.upto fnViewValidSpec)

/-- 'laws.FnScrollView', WHERE WHAT IT READS IS OF BULK AT MOST 1048576: true; the input reads as it did. -/
def fnScrollViewUptoRow : OpenClaim := { program := "ytiimlnefighlgaa", sum := "f643d8e20a53e1042e55aefabe80cd1bcc12ee759d79abe6988fb2ca24d95aef", func := "loop.example/texteditor/laws.FnScrollView", spec := "fnScrollView", inPlace := ["internal/bytealg.CountString", "internal/bytealg.IndexByteString", "internal/bytealg.IndexString"], named := ["internal/bytealg.MaxLen"], apart := false, narrowed := true }
def FnScrollViewUptoSaid : Prop := fnScrollViewUptoRow.holds Try.pinned (OpenSpec.upto fnScrollViewSpec)

/-- 'laws.FnShowRow', WHERE WHAT IT READS IS OF BULK AT MOST 1048576: true; the input reads as it did. -/
def fnShowRowUptoRow : OpenClaim := { program := "ytiimlnefighlgaa", sum := "f643d8e20a53e1042e55aefabe80cd1bcc12ee759d79abe6988fb2ca24d95aef", func := "loop.example/texteditor/laws.FnShowRow", spec := "fnShowRow", inPlace := ["internal/bytealg.CountString", "internal/bytealg.IndexByteString", "internal/bytealg.IndexString"], named := ["internal/bytealg.MaxLen"], apart := false, narrowed := true }
def FnShowRowUptoSaid : Prop := fnShowRowUptoRow.holds Try.pinned (OpenSpec.upto fnShowRowSpec)

/-- 'laws.FnShownRows', WHERE WHAT IT READS IS OF BULK AT MOST 1048576: true; the input reads as it did. -/
def fnShownRowsUptoRow : OpenClaim := { program := "ytiimlnefighlgaa", sum := "f643d8e20a53e1042e55aefabe80cd1bcc12ee759d79abe6988fb2ca24d95aef", func := "loop.example/texteditor/laws.FnShownRows", spec := "fnShownRows", inPlace := ["internal/bytealg.CountString", "internal/bytealg.IndexByteString", "internal/bytealg.IndexString"], named := ["internal/bytealg.MaxLen"], apart := false, narrowed := true }
def FnShownRowsUptoSaid : Prop := fnShownRowsUptoRow.holds Try.pinned (OpenSpec.upto fnShownRowsSpec)

/-- 'laws.FnExactOpenBuffer', WHERE WHAT IT READS IS OF BULK AT MOST 1048576: true; the input reads as it did. -/
def fnExactOpenBufferUptoRow : OpenClaim := { program := "ytiimlnefighlgaa", sum := "f643d8e20a53e1042e55aefabe80cd1bcc12ee759d79abe6988fb2ca24d95aef", func := "loop.example/texteditor/laws.FnExactOpenBuffer", spec := "fnExactOpenBuffer", unfollowed := true, recurses := true, apart := false, narrowed := true }
def FnExactOpenBufferUptoSaid : Prop := fnExactOpenBufferUptoRow.holds Try.pinned (OpenSpec.upto fnExactOpenBufferSpec)

/-- 'laws.FnExactDirtyNames', WHERE WHAT IT READS IS OF BULK AT MOST 1048576: true; the input reads as it did. -/
def fnExactDirtyNamesUptoRow : OpenClaim := { program := "ytiimlnefighlgaa", sum := "f643d8e20a53e1042e55aefabe80cd1bcc12ee759d79abe6988fb2ca24d95aef", func := "loop.example/texteditor/laws.FnExactDirtyNames", spec := "fnExactDirtyNames", unfollowed := true, recurses := true, apart := false, narrowed := true }
def FnExactDirtyNamesUptoSaid : Prop := fnExactDirtyNamesUptoRow.holds Try.pinned (OpenSpec.upto fnExactDirtyNamesSpec)

end Rows
end Go.Proofs.Ytiimlnefighlgaa
