/-
  DERIVED. GIVEN WITH THE SEED: THE CARDS: each row of YtcjgllbhmghkeaaDoorRows.lean that lists a variable, with what it lists TIED to the program's text (the seventh form; the later family's looks); each row that meets fmt, with fmt's text TOLD by the authors' own Lean function (tested against real Go, not proved from fmt's source: count such statements apart). THE CARD IS WHAT COUNTS. Prove the row's statement (the work); the ties are given (YtcjgllbhmghkeaaDoorTie.lean); close each card by the builder's one call (the guide's Derived/Test/ToyasCard.lean, 'card_holds'). Laid BY PROGRAM, IN A SANDBOX (cutbox-door.mjs). By AI agents, Wed Nov 11 2026. No macro, syntax, notation, axiom, sorry.
-/
import Derived.Test.YtcjgllbhmghkeaaDoorRows
import GoSem.ClaimSeven
namespace Go.Proofs.YtcjgllbhmghkeaaDoor
namespace Rows

/-- THE TIED CARD OF 'laws.FnExactShowTexts'. -/
def fnExactShowTextsCard : Claim7 := { stood := { row := fnExactShowTextsRow, standIns := [], harness := (true, "d7ffbb286276ea917b273eea68e5cdfda0c64bae6a5231ecc21bf71611437dae"), looks := false }, kinds := [], alts := [], laidByText := true, laidKinds := [.data, .pinned], laidTests := true, laidLooks := .later }
def FnExactShowTextsCardSaid : Prop := Claim7.holds Tryd.pinned (.plain (OpenSpec.ofChange fnExactShowTextsSpec)) fnExactShowTextsCard

/-- THE TIED CARD OF 'laws.FnShowTexts'. -/
def fnShowTextsCard : Claim7 := { stood := { row := fnShowTextsRow, standIns := [], harness := (true, "d7ffbb286276ea917b273eea68e5cdfda0c64bae6a5231ecc21bf71611437dae"), looks := false }, kinds := [], alts := [], laidByText := true, laidKinds := [.data, .pinned], laidTests := true, laidLooks := .later }
def FnShowTextsCardSaid : Prop := Claim7.holds Tryd.pinned (.plain (OpenSpec.ofChange fnShowTextsSpec)) fnShowTextsCard

/-- THE TIED CARD OF 'laws.FnKeysFor'. -/
def fnKeysForCard : Claim7 := { stood := { row := fnKeysForRow, standIns := [], harness := (true, "d7ffbb286276ea917b273eea68e5cdfda0c64bae6a5231ecc21bf71611437dae"), looks := false }, kinds := [], alts := [], laidByText := true, laidKinds := [.data, .pinned], laidTests := true, laidLooks := .later }
def FnKeysForCardSaid : Prop := Claim7.holds Tryd.pinned (.plain (OpenSpec.ofChange fnKeysForSpec)) fnKeysForCard

/-- THE SECOND FORM's CARD OF 'laws.FnExactShowTexts'. -/
def fnExactShowTextsUptoCard : Claim7 := { stood := { row := fnExactShowTextsUptoRow, standIns := [], harness := (true, "d7ffbb286276ea917b273eea68e5cdfda0c64bae6a5231ecc21bf71611437dae"), looks := false }, kinds := [], alts := [], laidByText := true, laidKinds := [.data, .pinned], laidTests := true, laidLooks := .later }
def FnExactShowTextsUptoCardSaid : Prop := Claim7.holds Tryd.pinned (.plain (OpenSpec.upto fnExactShowTextsSpec)) fnExactShowTextsUptoCard

/-- THE SECOND FORM's CARD OF 'laws.FnShowTexts'. -/
def fnShowTextsUptoCard : Claim7 := { stood := { row := fnShowTextsUptoRow, standIns := [], harness := (true, "d7ffbb286276ea917b273eea68e5cdfda0c64bae6a5231ecc21bf71611437dae"), looks := false }, kinds := [], alts := [], laidByText := true, laidKinds := [.data, .pinned], laidTests := true, laidLooks := .later }
def FnShowTextsUptoCardSaid : Prop := Claim7.holds Tryd.pinned (.plain (OpenSpec.upto fnShowTextsSpec)) fnShowTextsUptoCard

/-- THE SECOND FORM's CARD OF 'laws.FnKeysFor'. -/
def fnKeysForUptoCard : Claim7 := { stood := { row := fnKeysForUptoRow, standIns := [], harness := (true, "d7ffbb286276ea917b273eea68e5cdfda0c64bae6a5231ecc21bf71611437dae"), looks := false }, kinds := [], alts := [], laidByText := true, laidKinds := [.data, .pinned], laidTests := true, laidLooks := .later }
def FnKeysForUptoCardSaid : Prop := Claim7.holds Tryd.pinned (.plain (OpenSpec.upto fnKeysForSpec)) fnKeysForUptoCard
end Rows
end Go.Proofs.YtcjgllbhmghkeaaDoor
