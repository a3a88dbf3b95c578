/-
  DERIVED. GIVEN WITH THE SEED: THE CARDS: each row of YtbjlkdenkmbepaaGreatDoorRows.lean that lists a variable, with what it lists TIED to the program's text (the seventh form; the later family's looks); each row that meets fmt, with fmt's text TOLD by the authors' own Lean function (tested against real Go, not proved from fmt's source: count such statements apart). THE CARD IS WHAT COUNTS. Prove the row's statement (the work); the ties are given (YtbjlkdenkmbepaaGreatDoorTie.lean); close each card by the builder's one call (the guide's Derived/Test/ToyasCard.lean, 'card_holds'). Laid BY PROGRAM, IN A SANDBOX (cutbox-door.mjs). By AI agents, Wed Nov 11 2026. No macro, syntax, notation, axiom, sorry.
-/
import Derived.Test.YtbjlkdenkmbepaaGreatDoorRows
import GoSem.ClaimSeven
namespace Go.Proofs.YtbjlkdenkmbepaaGreatDoor
namespace Rows

/-- THE TIED CARD OF 'laws.FnEditorRun'. -/
def fnEditorRunCard : Claim7 := { stood := { row := fnEditorRunRow, standIns := [], harness := (true, "e9c4277ab7cce148ddd772663c98a900ed8a5a46f525841edb1eebb8123398c8"), looks := true }, kinds := [], alts := [], laidByText := true, laidKinds := [.data, .data, .data, .data, .sentinel, .sentinel, .pinned], laidTests := true, laidLooks := .later }
def FnEditorRunCardSaid : Prop := Claim7.holds Tryz.pinned (.plain (OpenSpec.ofChange fnEditorRunSpec)) fnEditorRunCard

/-- THE TIED CARD OF 'laws.FnExactEditorDo'. -/
def fnExactEditorDoCard : Claim7 := { stood := { row := fnExactEditorDoRow, standIns := [], harness := (true, "e9c4277ab7cce148ddd772663c98a900ed8a5a46f525841edb1eebb8123398c8"), looks := true }, kinds := [], alts := [], laidByText := true, laidKinds := [.data, .data, .data, .data, .sentinel, .sentinel, .pinned], laidTests := true, laidLooks := .later }
def FnExactEditorDoCardSaid : Prop := Claim7.holds Tryz.pinned (.plain (OpenSpec.ofChange fnExactEditorDoSpec)) fnExactEditorDoCard

/-- THE TIED CARD OF 'laws.FnExactEditorRun'. -/
def fnExactEditorRunCard : Claim7 := { stood := { row := fnExactEditorRunRow, standIns := [], harness := (true, "e9c4277ab7cce148ddd772663c98a900ed8a5a46f525841edb1eebb8123398c8"), looks := true }, kinds := [], alts := [], laidByText := true, laidKinds := [.data, .data, .data, .data, .sentinel, .sentinel, .pinned], laidTests := true, laidLooks := .later }
def FnExactEditorRunCardSaid : Prop := Claim7.holds Tryz.pinned (.plain (OpenSpec.ofChange fnExactEditorRunSpec)) fnExactEditorRunCard

/-- THE TIED CARD OF 'laws.FnEditorOf'. -/
def fnEditorOfCard : Claim7 := { stood := { row := fnEditorOfRow, standIns := [], harness := (true, "e9c4277ab7cce148ddd772663c98a900ed8a5a46f525841edb1eebb8123398c8"), looks := true }, kinds := [], alts := [], laidByText := true, laidKinds := [.data, .data, .data, .data, .sentinel, .sentinel, .pinned], laidTests := true, laidLooks := .later }
def FnEditorOfCardSaid : Prop := Claim7.holds Tryz.pinned (.plain (OpenSpec.ofChange fnEditorOfSpec)) fnEditorOfCard

/-- THE TIED CARD OF 'laws.FnExactEditorAfresh'. -/
def fnExactEditorAfreshCard : Claim7 := { stood := { row := fnExactEditorAfreshRow, standIns := [], harness := (true, "e9c4277ab7cce148ddd772663c98a900ed8a5a46f525841edb1eebb8123398c8"), looks := true }, kinds := [], alts := [], laidByText := true, laidKinds := [.data, .data, .data, .data, .sentinel, .sentinel, .pinned], laidTests := true, laidLooks := .later }
def FnExactEditorAfreshCardSaid : Prop := Claim7.holds Tryz.pinned (.plain (OpenSpec.ofChange fnExactEditorAfreshSpec)) fnExactEditorAfreshCard

/-- THE TIED CARD OF 'laws.FnEditorAfresh'. -/
def fnEditorAfreshCard : Claim7 := { stood := { row := fnEditorAfreshRow, standIns := [], harness := (true, "e9c4277ab7cce148ddd772663c98a900ed8a5a46f525841edb1eebb8123398c8"), looks := true }, kinds := [], alts := [], laidByText := true, laidKinds := [.data, .data, .data, .data, .sentinel, .sentinel, .pinned], laidTests := true, laidLooks := .later }
def FnEditorAfreshCardSaid : Prop := Claim7.holds Tryz.pinned (.plain (OpenSpec.ofChange fnEditorAfreshSpec)) fnEditorAfreshCard

/-- THE TIED CARD OF 'laws.FnEditorRedo'. -/
def fnEditorRedoCard : Claim7 := { stood := { row := fnEditorRedoRow, standIns := [], harness := (true, "e9c4277ab7cce148ddd772663c98a900ed8a5a46f525841edb1eebb8123398c8"), looks := true }, kinds := [], alts := [], laidByText := true, laidKinds := [.data, .data, .data, .data, .sentinel, .sentinel, .pinned], laidTests := true, laidLooks := .later }
def FnEditorRedoCardSaid : Prop := Claim7.holds Tryz.pinned (.plain (OpenSpec.ofChange fnEditorRedoSpec)) fnEditorRedoCard

/-- THE TIED CARD OF 'laws.FnEditorDo'. -/
def fnEditorDoCard : Claim7 := { stood := { row := fnEditorDoRow, standIns := [], harness := (true, "e9c4277ab7cce148ddd772663c98a900ed8a5a46f525841edb1eebb8123398c8"), looks := true }, kinds := [], alts := [], laidByText := true, laidKinds := [.data, .data, .data, .data, .sentinel, .sentinel, .pinned], laidTests := true, laidLooks := .later }
def FnEditorDoCardSaid : Prop := Claim7.holds Tryz.pinned (.plain (OpenSpec.ofChange fnEditorDoSpec)) fnEditorDoCard

/-- THE TIED CARD OF 'laws.FnEditorFirst'. -/
def fnEditorFirstCard : Claim7 := { stood := { row := fnEditorFirstRow, standIns := [], harness := (true, "e9c4277ab7cce148ddd772663c98a900ed8a5a46f525841edb1eebb8123398c8"), looks := true }, kinds := [], alts := [], laidByText := true, laidKinds := [.data, .data, .data, .data, .sentinel, .sentinel, .pinned], laidTests := true, laidLooks := .later }
def FnEditorFirstCardSaid : Prop := Claim7.holds Tryz.pinned (.plain (OpenSpec.ofChange fnEditorFirstSpec)) fnEditorFirstCard

/-- THE SECOND FORM's CARD OF 'laws.FnEditorRun'. -/
def fnEditorRunUptoCard : Claim7 := { stood := { row := fnEditorRunUptoRow, standIns := [], harness := (true, "e9c4277ab7cce148ddd772663c98a900ed8a5a46f525841edb1eebb8123398c8"), looks := true }, kinds := [], alts := [], laidByText := true, laidKinds := [.data, .data, .data, .data, .sentinel, .sentinel, .pinned], laidTests := true, laidLooks := .later }
def FnEditorRunUptoCardSaid : Prop := Claim7.holds Tryz.pinned (.plain (OpenSpec.upto fnEditorRunSpec)) fnEditorRunUptoCard

/-- THE SECOND FORM's CARD OF 'laws.FnExactEditorDo'. -/
def fnExactEditorDoUptoCard : Claim7 := { stood := { row := fnExactEditorDoUptoRow, standIns := [], harness := (true, "e9c4277ab7cce148ddd772663c98a900ed8a5a46f525841edb1eebb8123398c8"), looks := true }, kinds := [], alts := [], laidByText := true, laidKinds := [.data, .data, .data, .data, .sentinel, .sentinel, .pinned], laidTests := true, laidLooks := .later }
def FnExactEditorDoUptoCardSaid : Prop := Claim7.holds Tryz.pinned (.plain (OpenSpec.upto fnExactEditorDoSpec)) fnExactEditorDoUptoCard

/-- THE SECOND FORM's CARD OF 'laws.FnExactEditorRun'. -/
def fnExactEditorRunUptoCard : Claim7 := { stood := { row := fnExactEditorRunUptoRow, standIns := [], harness := (true, "e9c4277ab7cce148ddd772663c98a900ed8a5a46f525841edb1eebb8123398c8"), looks := true }, kinds := [], alts := [], laidByText := true, laidKinds := [.data, .data, .data, .data, .sentinel, .sentinel, .pinned], laidTests := true, laidLooks := .later }
def FnExactEditorRunUptoCardSaid : Prop := Claim7.holds Tryz.pinned (.plain (OpenSpec.upto fnExactEditorRunSpec)) fnExactEditorRunUptoCard

/-- THE SECOND FORM's CARD OF 'laws.FnEditorOf'. -/
def fnEditorOfUptoCard : Claim7 := { stood := { row := fnEditorOfUptoRow, standIns := [], harness := (true, "e9c4277ab7cce148ddd772663c98a900ed8a5a46f525841edb1eebb8123398c8"), looks := true }, kinds := [], alts := [], laidByText := true, laidKinds := [.data, .data, .data, .data, .sentinel, .sentinel, .pinned], laidTests := true, laidLooks := .later }
def FnEditorOfUptoCardSaid : Prop := Claim7.holds Tryz.pinned (.plain (OpenSpec.upto fnEditorOfSpec)) fnEditorOfUptoCard

/-- THE SECOND FORM's CARD OF 'laws.FnExactEditorAfresh'. -/
def fnExactEditorAfreshUptoCard : Claim7 := { stood := { row := fnExactEditorAfreshUptoRow, standIns := [], harness := (true, "e9c4277ab7cce148ddd772663c98a900ed8a5a46f525841edb1eebb8123398c8"), looks := true }, kinds := [], alts := [], laidByText := true, laidKinds := [.data, .data, .data, .data, .sentinel, .sentinel, .pinned], laidTests := true, laidLooks := .later }
def FnExactEditorAfreshUptoCardSaid : Prop := Claim7.holds Tryz.pinned (.plain (OpenSpec.upto fnExactEditorAfreshSpec)) fnExactEditorAfreshUptoCard

/-- THE SECOND FORM's CARD OF 'laws.FnEditorAfresh'. -/
def fnEditorAfreshUptoCard : Claim7 := { stood := { row := fnEditorAfreshUptoRow, standIns := [], harness := (true, "e9c4277ab7cce148ddd772663c98a900ed8a5a46f525841edb1eebb8123398c8"), looks := true }, kinds := [], alts := [], laidByText := true, laidKinds := [.data, .data, .data, .data, .sentinel, .sentinel, .pinned], laidTests := true, laidLooks := .later }
def FnEditorAfreshUptoCardSaid : Prop := Claim7.holds Tryz.pinned (.plain (OpenSpec.upto fnEditorAfreshSpec)) fnEditorAfreshUptoCard

/-- THE SECOND FORM's CARD OF 'laws.FnEditorRedo'. -/
def fnEditorRedoUptoCard : Claim7 := { stood := { row := fnEditorRedoUptoRow, standIns := [], harness := (true, "e9c4277ab7cce148ddd772663c98a900ed8a5a46f525841edb1eebb8123398c8"), looks := true }, kinds := [], alts := [], laidByText := true, laidKinds := [.data, .data, .data, .data, .sentinel, .sentinel, .pinned], laidTests := true, laidLooks := .later }
def FnEditorRedoUptoCardSaid : Prop := Claim7.holds Tryz.pinned (.plain (OpenSpec.upto fnEditorRedoSpec)) fnEditorRedoUptoCard

/-- THE SECOND FORM's CARD OF 'laws.FnEditorDo'. -/
def fnEditorDoUptoCard : Claim7 := { stood := { row := fnEditorDoUptoRow, standIns := [], harness := (true, "e9c4277ab7cce148ddd772663c98a900ed8a5a46f525841edb1eebb8123398c8"), looks := true }, kinds := [], alts := [], laidByText := true, laidKinds := [.data, .data, .data, .data, .sentinel, .sentinel, .pinned], laidTests := true, laidLooks := .later }
def FnEditorDoUptoCardSaid : Prop := Claim7.holds Tryz.pinned (.plain (OpenSpec.upto fnEditorDoSpec)) fnEditorDoUptoCard

/-- THE SECOND FORM's CARD OF 'laws.FnEditorFirst'. -/
def fnEditorFirstUptoCard : Claim7 := { stood := { row := fnEditorFirstUptoRow, standIns := [], harness := (true, "e9c4277ab7cce148ddd772663c98a900ed8a5a46f525841edb1eebb8123398c8"), looks := true }, kinds := [], alts := [], laidByText := true, laidKinds := [.data, .data, .data, .data, .sentinel, .sentinel, .pinned], laidTests := true, laidLooks := .later }
def FnEditorFirstUptoCardSaid : Prop := Claim7.holds Tryz.pinned (.plain (OpenSpec.upto fnEditorFirstSpec)) fnEditorFirstUptoCard
end Rows
end Go.Proofs.YtbjlkdenkmbepaaGreatDoor
