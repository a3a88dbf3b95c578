/-
  DERIVED. GIVEN WITH THE SEED: THE CARDS: each row of YtdngdlcibaiekaaGreatDoorRows.lean that lists a variable, with what it lists TIED to the program's text (the seventh form; the later family's looks); each row that meets fmt, with fmt's text TOLD by the authors' own Lean function (tested against real Go, not proved from fmt's source: count such statements apart). THE CARD IS WHAT COUNTS. Prove the row's statement (the work); the ties are given (YtdngdlcibaiekaaGreatDoorTie.lean); close each card by the builder's one call (the guide's Derived/Test/ToyasCard.lean, 'card_holds'). Laid BY PROGRAM, IN A SANDBOX (cutbox-door.mjs). By AI agents, Wed Nov 11 2026. No macro, syntax, notation, axiom, sorry.
-/
import Derived.Test.YtdngdlcibaiekaaGreatDoorRows
import GoSem.ClaimSeven
namespace Go.Proofs.YtdngdlcibaiekaaGreatDoor
namespace Rows

/-- THE TIED CARD OF 'laws.FnExactReadRecord'. -/
def fnExactReadRecordCard : Claim7 := { stood := { row := fnExactReadRecordRow, standIns := [], harness := (true, "7fe72f7c8f7ac51c80a199526cb9f385609cbb3a712494ac14fe1830c4fa4512"), looks := true }, kinds := [], alts := [], laidByText := true, laidKinds := [.data, .data, .data, .data, .sentinel, .sentinel, .pinned], laidTests := true, laidLooks := .later }
def FnExactReadRecordCardSaid : Prop := Claim7.holds Tryz.pinned (.plain (OpenSpec.ofChange fnExactReadRecordSpec)) fnExactReadRecordCard

/-- THE TIED CARD OF 'laws.FnRecordText'. -/
def fnRecordTextCard : Claim7 := { stood := { row := fnRecordTextRow, standIns := [], harness := (true, "7fe72f7c8f7ac51c80a199526cb9f385609cbb3a712494ac14fe1830c4fa4512"), looks := true }, kinds := [], alts := [], laidByText := true, laidKinds := [.data, .data, .data, .data, .sentinel, .sentinel, .pinned], laidTests := true, laidLooks := .later }
def FnRecordTextCardSaid : Prop := Claim7.holds Tryz.pinned (.plain (OpenSpec.ofChange fnRecordTextSpec)) fnRecordTextCard

/-- THE TIED CARD OF 'laws.FnReadRecord'. -/
def fnReadRecordCard : Claim7 := { stood := { row := fnReadRecordRow, standIns := [], harness := (true, "7fe72f7c8f7ac51c80a199526cb9f385609cbb3a712494ac14fe1830c4fa4512"), looks := true }, kinds := [], alts := [], laidByText := true, laidKinds := [.data, .data, .data, .data, .sentinel, .sentinel, .pinned], laidTests := true, laidLooks := .later }
def FnReadRecordCardSaid : Prop := Claim7.holds Tryz.pinned (.plain (OpenSpec.ofChange fnReadRecordSpec)) fnReadRecordCard

/-- THE TIED CARD OF 'laws.FnExactPlayRecords'. -/
def fnExactPlayRecordsCard : Claim7 := { stood := { row := fnExactPlayRecordsRow, standIns := [], harness := (true, "7fe72f7c8f7ac51c80a199526cb9f385609cbb3a712494ac14fe1830c4fa4512"), looks := true }, kinds := [], alts := [], laidByText := true, laidKinds := [.data, .data, .data, .data, .sentinel, .sentinel, .pinned], laidTests := true, laidLooks := .later }
def FnExactPlayRecordsCardSaid : Prop := Claim7.holds Tryz.pinned (.plain (OpenSpec.ofChange fnExactPlayRecordsSpec)) fnExactPlayRecordsCard

/-- THE TIED CARD OF 'laws.FnPlayRecords'. -/
def fnPlayRecordsCard : Claim7 := { stood := { row := fnPlayRecordsRow, standIns := [], harness := (true, "7fe72f7c8f7ac51c80a199526cb9f385609cbb3a712494ac14fe1830c4fa4512"), looks := true }, kinds := [], alts := [], laidByText := true, laidKinds := [.data, .data, .data, .data, .sentinel, .sentinel, .pinned], laidTests := true, laidLooks := .later }
def FnPlayRecordsCardSaid : Prop := Claim7.holds Tryz.pinned (.plain (OpenSpec.ofChange fnPlayRecordsSpec)) fnPlayRecordsCard

/-- THE TIED CARD OF 'laws.FnExactHistoryRecords'. -/
def fnExactHistoryRecordsCard : Claim7 := { stood := { row := fnExactHistoryRecordsRow, standIns := [], harness := (true, "7fe72f7c8f7ac51c80a199526cb9f385609cbb3a712494ac14fe1830c4fa4512"), looks := true }, kinds := [], alts := [], laidByText := true, laidKinds := [.data, .data, .data], laidTests := true, laidLooks := .later }
def FnExactHistoryRecordsCardSaid : Prop := Claim7.holds Tryz.pinned (.plain (OpenSpec.ofChange fnExactHistoryRecordsSpec)) fnExactHistoryRecordsCard

/-- THE TIED CARD OF 'laws.FnHistoryRecords'. -/
def fnHistoryRecordsCard : Claim7 := { stood := { row := fnHistoryRecordsRow, standIns := [], harness := (true, "7fe72f7c8f7ac51c80a199526cb9f385609cbb3a712494ac14fe1830c4fa4512"), looks := true }, kinds := [], alts := [], laidByText := true, laidKinds := [.data, .data, .data, .data, .sentinel, .sentinel, .pinned], laidTests := true, laidLooks := .later }
def FnHistoryRecordsCardSaid : Prop := Claim7.holds Tryz.pinned (.plain (OpenSpec.ofChange fnHistoryRecordsSpec)) fnHistoryRecordsCard

/-- THE SECOND FORM's CARD OF 'laws.FnExactReadRecord'. -/
def fnExactReadRecordUptoCard : Claim7 := { stood := { row := fnExactReadRecordUptoRow, standIns := [], harness := (true, "7fe72f7c8f7ac51c80a199526cb9f385609cbb3a712494ac14fe1830c4fa4512"), looks := true }, kinds := [], alts := [], laidByText := true, laidKinds := [.data, .data, .data, .data, .sentinel, .sentinel, .pinned], laidTests := true, laidLooks := .later }
def FnExactReadRecordUptoCardSaid : Prop := Claim7.holds Tryz.pinned (.plain (OpenSpec.upto fnExactReadRecordSpec)) fnExactReadRecordUptoCard

/-- THE SECOND FORM's CARD OF 'laws.FnRecordText'. -/
def fnRecordTextUptoCard : Claim7 := { stood := { row := fnRecordTextUptoRow, standIns := [], harness := (true, "7fe72f7c8f7ac51c80a199526cb9f385609cbb3a712494ac14fe1830c4fa4512"), looks := true }, kinds := [], alts := [], laidByText := true, laidKinds := [.data, .data, .data, .data, .sentinel, .sentinel, .pinned], laidTests := true, laidLooks := .later }
def FnRecordTextUptoCardSaid : Prop := Claim7.holds Tryz.pinned (.plain (OpenSpec.upto fnRecordTextSpec)) fnRecordTextUptoCard

/-- THE SECOND FORM's CARD OF 'laws.FnReadRecord'. -/
def fnReadRecordUptoCard : Claim7 := { stood := { row := fnReadRecordUptoRow, standIns := [], harness := (true, "7fe72f7c8f7ac51c80a199526cb9f385609cbb3a712494ac14fe1830c4fa4512"), looks := true }, kinds := [], alts := [], laidByText := true, laidKinds := [.data, .data, .data, .data, .sentinel, .sentinel, .pinned], laidTests := true, laidLooks := .later }
def FnReadRecordUptoCardSaid : Prop := Claim7.holds Tryz.pinned (.plain (OpenSpec.upto fnReadRecordSpec)) fnReadRecordUptoCard

/-- THE SECOND FORM's CARD OF 'laws.FnExactPlayRecords'. -/
def fnExactPlayRecordsUptoCard : Claim7 := { stood := { row := fnExactPlayRecordsUptoRow, standIns := [], harness := (true, "7fe72f7c8f7ac51c80a199526cb9f385609cbb3a712494ac14fe1830c4fa4512"), looks := true }, kinds := [], alts := [], laidByText := true, laidKinds := [.data, .data, .data, .data, .sentinel, .sentinel, .pinned], laidTests := true, laidLooks := .later }
def FnExactPlayRecordsUptoCardSaid : Prop := Claim7.holds Tryz.pinned (.plain (OpenSpec.upto fnExactPlayRecordsSpec)) fnExactPlayRecordsUptoCard

/-- THE SECOND FORM's CARD OF 'laws.FnPlayRecords'. -/
def fnPlayRecordsUptoCard : Claim7 := { stood := { row := fnPlayRecordsUptoRow, standIns := [], harness := (true, "7fe72f7c8f7ac51c80a199526cb9f385609cbb3a712494ac14fe1830c4fa4512"), looks := true }, kinds := [], alts := [], laidByText := true, laidKinds := [.data, .data, .data, .data, .sentinel, .sentinel, .pinned], laidTests := true, laidLooks := .later }
def FnPlayRecordsUptoCardSaid : Prop := Claim7.holds Tryz.pinned (.plain (OpenSpec.upto fnPlayRecordsSpec)) fnPlayRecordsUptoCard

/-- THE SECOND FORM's CARD OF 'laws.FnExactHistoryRecords'. -/
def fnExactHistoryRecordsUptoCard : Claim7 := { stood := { row := fnExactHistoryRecordsUptoRow, standIns := [], harness := (true, "7fe72f7c8f7ac51c80a199526cb9f385609cbb3a712494ac14fe1830c4fa4512"), looks := true }, kinds := [], alts := [], laidByText := true, laidKinds := [.data, .data, .data], laidTests := true, laidLooks := .later }
def FnExactHistoryRecordsUptoCardSaid : Prop := Claim7.holds Tryz.pinned (.plain (OpenSpec.upto fnExactHistoryRecordsSpec)) fnExactHistoryRecordsUptoCard

/-- THE SECOND FORM's CARD OF 'laws.FnHistoryRecords'. -/
def fnHistoryRecordsUptoCard : Claim7 := { stood := { row := fnHistoryRecordsUptoRow, standIns := [], harness := (true, "7fe72f7c8f7ac51c80a199526cb9f385609cbb3a712494ac14fe1830c4fa4512"), looks := true }, kinds := [], alts := [], laidByText := true, laidKinds := [.data, .data, .data, .data, .sentinel, .sentinel, .pinned], laidTests := true, laidLooks := .later }
def FnHistoryRecordsUptoCardSaid : Prop := Claim7.holds Tryz.pinned (.plain (OpenSpec.upto fnHistoryRecordsSpec)) fnHistoryRecordsUptoCard
end Rows
end Go.Proofs.YtdngdlcibaiekaaGreatDoor
