/-
  DERIVED. GIVEN WITH THE SEED: THE CARDS: each row of YtgeegppaaggcjaaDoorRows.lean that lists a variable, with what it lists TIED to the program's text (the seventh form; the later family's looks); each row that meets fmt, with fmt's text TOLD by the authors' own Lean function (tested against real Go, not proved from fmt's source: count such statements apart). THE CARD IS WHAT COUNTS. Prove the row's statement (the work); the ties are given (YtgeegppaaggcjaaDoorTie.lean); close each card by the builder's one call (the guide's Derived/Test/ToyasCard.lean, 'card_holds'). Laid BY PROGRAM, IN A SANDBOX (cutbox-door.mjs). By AI agents, Wed Nov 11 2026. No macro, syntax, notation, axiom, sorry.
-/
import Derived.Test.YtgeegppaaggcjaaDoorRows
import GoSem.ClaimSeven
namespace Go.Proofs.YtgeegppaaggcjaaDoor
namespace Rows

/-- THE TIED CARD OF 'laws.FnModuleText'. -/
def fnModuleTextCard : Claim7 := { stood := { row := fnModuleTextRow, standIns := [], harness := (true, "5ce8bb89460a0253334e66c27c7389e3228cd527db25e45f8624ece5f2934612"), looks := true }, kinds := [], alts := [], laidByText := true, laidKinds := [.data, .data, .data, .sentinel, .sentinel], laidTests := true, laidLooks := .later }
def FnModuleTextCardSaid : Prop := Claim7.holds Tryd.pinned (.plain (OpenSpec.ofChange fnModuleTextSpec)) fnModuleTextCard

/-- THE SECOND FORM's CARD OF 'laws.FnModuleText'. -/
def fnModuleTextUptoCard : Claim7 := { stood := { row := fnModuleTextUptoRow, standIns := [], harness := (true, "5ce8bb89460a0253334e66c27c7389e3228cd527db25e45f8624ece5f2934612"), looks := true }, kinds := [], alts := [], laidByText := true, laidKinds := [.data, .data, .data, .sentinel, .sentinel], laidTests := true, laidLooks := .later }
def FnModuleTextUptoCardSaid : Prop := Claim7.holds Tryd.pinned (.plain (OpenSpec.upto fnModuleTextSpec)) fnModuleTextUptoCard
end Rows
end Go.Proofs.YtgeegppaaggcjaaDoor
