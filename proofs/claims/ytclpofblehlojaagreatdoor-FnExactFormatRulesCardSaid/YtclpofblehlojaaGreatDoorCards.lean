/-
  DERIVED. GIVEN WITH THE SEED: THE CARDS: each row of YtclpofblehlojaaGreatDoorRows.lean that lists a variable, with what it lists TIED to the program's text (the seventh form; the later family's looks); each row that meets fmt, with fmt's text TOLD by the authors' own Lean function (tested against real Go, not proved from fmt's source: count such statements apart). THE CARD IS WHAT COUNTS. Prove the row's statement (the work); the ties are given (YtclpofblehlojaaGreatDoorTie.lean); close each card by the builder's one call (the guide's Derived/Test/ToyasCard.lean, 'card_holds'). Laid BY PROGRAM, IN A SANDBOX (cutbox-door.mjs). By AI agents, Wed Nov 11 2026. No macro, syntax, notation, axiom, sorry.
-/
import Derived.Test.YtclpofblehlojaaGreatDoorRows
import GoSem.ClaimSeven
namespace Go.Proofs.YtclpofblehlojaaGreatDoor
namespace Rows

/-- THE TIED CARD OF 'laws.FnExactFormatRules'. -/
def fnExactFormatRulesCard : Claim7 := { stood := { row := fnExactFormatRulesRow, standIns := [], harness := (true, "b8f4b59cd182d5c429cf8344c1371186551134fe420da50fde9f23efb1d7e789"), looks := true }, kinds := [], alts := [], laidByText := true, laidKinds := [.data, .data, .data], laidTests := true, laidLooks := .later }
def FnExactFormatRulesCardSaid : Prop := Claim7.holds Tryz.pinned (.plain (OpenSpec.ofChange fnExactFormatRulesSpec)) fnExactFormatRulesCard

/-- THE TIED CARD OF 'laws.FnCoreText'. -/
def fnCoreTextCard : Claim7 := { stood := { row := fnCoreTextRow, standIns := [], harness := (true, "b8f4b59cd182d5c429cf8344c1371186551134fe420da50fde9f23efb1d7e789"), looks := true }, kinds := [], alts := [], laidByText := true, laidKinds := [.data, .data, .data, .sentinel, .sentinel], laidTests := true, laidLooks := .later }
def FnCoreTextCardSaid : Prop := Claim7.holds Tryz.pinned (.plain (OpenSpec.ofChange fnCoreTextSpec)) fnCoreTextCard

/-- THE SECOND FORM's CARD OF 'laws.FnExactFormatRules'. -/
def fnExactFormatRulesUptoCard : Claim7 := { stood := { row := fnExactFormatRulesUptoRow, standIns := [], harness := (true, "b8f4b59cd182d5c429cf8344c1371186551134fe420da50fde9f23efb1d7e789"), looks := true }, kinds := [], alts := [], laidByText := true, laidKinds := [.data, .data, .data], laidTests := true, laidLooks := .later }
def FnExactFormatRulesUptoCardSaid : Prop := Claim7.holds Tryz.pinned (.plain (OpenSpec.upto fnExactFormatRulesSpec)) fnExactFormatRulesUptoCard

/-- THE SECOND FORM's CARD OF 'laws.FnCoreText'. -/
def fnCoreTextUptoCard : Claim7 := { stood := { row := fnCoreTextUptoRow, standIns := [], harness := (true, "b8f4b59cd182d5c429cf8344c1371186551134fe420da50fde9f23efb1d7e789"), looks := true }, kinds := [], alts := [], laidByText := true, laidKinds := [.data, .data, .data, .sentinel, .sentinel], laidTests := true, laidLooks := .later }
def FnCoreTextUptoCardSaid : Prop := Claim7.holds Tryz.pinned (.plain (OpenSpec.upto fnCoreTextSpec)) fnCoreTextUptoCard
end Rows
end Go.Proofs.YtclpofblehlojaaGreatDoor
