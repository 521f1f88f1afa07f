/-
  DERIVED. GIVEN WITH THE SEED: THE CARDS: each row of YtgeegppaaggcjaaGreatDoorRows.lean that lists a variable, with what it lists TIED to the program's text (the seventh form; the later family's looks); each row that meets fmt, with fmt's text TOLD by the authors' own Lean function (tested against real Go, not proved from fmt's source: count such statements apart). THE CARD IS WHAT COUNTS. Prove the row's statement (the work); the ties are given (YtgeegppaaggcjaaGreatDoorTie.lean); close each card by the builder's one call (the guide's Derived/Test/ToyasCard.lean, 'card_holds'). Laid BY PROGRAM, IN A SANDBOX (cutbox-door.mjs). By AI agents, Wed Nov 11 2026. No macro, syntax, notation, axiom, sorry.
-/
import Derived.Test.YtgeegppaaggcjaaGreatDoorRows
import GoSem.ClaimSeven
namespace Go.Proofs.YtgeegppaaggcjaaGreatDoor
namespace Rows

/-- THE TIED CARD OF 'laws.FnExactFormatRules'. -/
def fnExactFormatRulesCard : Claim7 := { stood := { row := fnExactFormatRulesRow, standIns := [], harness := (true, "3d85022e792824fb912263564ef0bd58386c6748927ca2f98d46000d5cc04d1c"), looks := true }, kinds := [], alts := [], laidByText := true, laidKinds := [.data, .data, .data], laidTests := true, laidLooks := .later }
def FnExactFormatRulesCardSaid : Prop := Claim7.holds Tryz.pinned (.plain (OpenSpec.ofChange fnExactFormatRulesSpec)) fnExactFormatRulesCard

/-- THE TIED CARD OF 'laws.FnExactReadCore'. -/
def fnExactReadCoreCard : Claim7 := { stood := { row := fnExactReadCoreRow, standIns := [], harness := (true, "3d85022e792824fb912263564ef0bd58386c6748927ca2f98d46000d5cc04d1c"), looks := true }, kinds := [], alts := [], laidByText := true, laidKinds := [.data, .data, .data, .sentinel, .sentinel], laidTests := true, laidLooks := .later }
def FnExactReadCoreCardSaid : Prop := Claim7.holds Tryz.pinned (.plain (OpenSpec.ofChange fnExactReadCoreSpec)) fnExactReadCoreCard

/-- THE SECOND FORM's CARD OF 'laws.FnExactFormatRules'. -/
def fnExactFormatRulesUptoCard : Claim7 := { stood := { row := fnExactFormatRulesUptoRow, standIns := [], harness := (true, "3d85022e792824fb912263564ef0bd58386c6748927ca2f98d46000d5cc04d1c"), looks := true }, kinds := [], alts := [], laidByText := true, laidKinds := [.data, .data, .data], laidTests := true, laidLooks := .later }
def FnExactFormatRulesUptoCardSaid : Prop := Claim7.holds Tryz.pinned (.plain (OpenSpec.upto fnExactFormatRulesSpec)) fnExactFormatRulesUptoCard

/-- THE SECOND FORM's CARD OF 'laws.FnExactReadCore'. -/
def fnExactReadCoreUptoCard : Claim7 := { stood := { row := fnExactReadCoreUptoRow, standIns := [], harness := (true, "3d85022e792824fb912263564ef0bd58386c6748927ca2f98d46000d5cc04d1c"), looks := true }, kinds := [], alts := [], laidByText := true, laidKinds := [.data, .data, .data, .sentinel, .sentinel], laidTests := true, laidLooks := .later }
def FnExactReadCoreUptoCardSaid : Prop := Claim7.holds Tryz.pinned (.plain (OpenSpec.upto fnExactReadCoreSpec)) fnExactReadCoreUptoCard
end Rows
end Go.Proofs.YtgeegppaaggcjaaGreatDoor
