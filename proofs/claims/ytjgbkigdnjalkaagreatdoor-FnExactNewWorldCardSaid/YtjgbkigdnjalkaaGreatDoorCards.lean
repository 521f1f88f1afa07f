/-
  DERIVED. GIVEN WITH THE SEED: THE CARDS: each row of YtjgbkigdnjalkaaGreatDoorRows.lean that lists a variable, with what it lists TIED to the program's text (the seventh form; the later family's looks); each row that meets fmt, with fmt's text TOLD by the authors' own Lean function (tested against real Go, not proved from fmt's source: count such statements apart). THE CARD IS WHAT COUNTS. Prove the row's statement (the work); the ties are given (YtjgbkigdnjalkaaGreatDoorTie.lean); close each card by the builder's one call (the guide's Derived/Test/ToyasCard.lean, 'card_holds'). Laid BY PROGRAM, IN A SANDBOX (cutbox-door.mjs). By AI agents, Wed Nov 11 2026. No macro, syntax, notation, axiom, sorry.
-/
import Derived.Test.YtjgbkigdnjalkaaGreatDoorRows
import GoSem.ClaimSeven
namespace Go.Proofs.YtjgbkigdnjalkaaGreatDoor
namespace Rows

/-- THE TIED CARD OF 'laws.FnExactLoadBase'. -/
def fnExactLoadBaseCard : Claim7 := { stood := { row := fnExactLoadBaseRow, standIns := [], harness := (true, "02157d38ed3246fa85d61730f4708fa8c390f9d5a23326e01358c3a3cce31c03"), looks := true }, kinds := [], alts := [], laidByText := true, laidKinds := [.data, .data, .data, .sentinel, .sentinel], laidTests := true, laidLooks := .later }
def FnExactLoadBaseCardSaid : Prop := Claim7.holds Tryz.pinned (.plain (OpenSpec.ofChange fnExactLoadBaseSpec)) fnExactLoadBaseCard

/-- THE TIED CARD OF 'laws.FnExactNewWorld'. -/
def fnExactNewWorldCard : Claim7 := { stood := { row := fnExactNewWorldRow, standIns := [], harness := (true, "02157d38ed3246fa85d61730f4708fa8c390f9d5a23326e01358c3a3cce31c03"), looks := true }, kinds := [], alts := [], laidByText := true, laidKinds := [.data, .data, .data, .sentinel, .sentinel], laidTests := true, laidLooks := .later }
def FnExactNewWorldCardSaid : Prop := Claim7.holds Tryz.pinned (.plain (OpenSpec.ofChange fnExactNewWorldSpec)) fnExactNewWorldCard

/-- THE SECOND FORM's CARD OF 'laws.FnExactLoadBase'. -/
def fnExactLoadBaseUptoCard : Claim7 := { stood := { row := fnExactLoadBaseUptoRow, standIns := [], harness := (true, "02157d38ed3246fa85d61730f4708fa8c390f9d5a23326e01358c3a3cce31c03"), looks := true }, kinds := [], alts := [], laidByText := true, laidKinds := [.data, .data, .data, .sentinel, .sentinel], laidTests := true, laidLooks := .later }
def FnExactLoadBaseUptoCardSaid : Prop := Claim7.holds Tryz.pinned (.plain (OpenSpec.upto fnExactLoadBaseSpec)) fnExactLoadBaseUptoCard

/-- THE SECOND FORM's CARD OF 'laws.FnExactNewWorld'. -/
def fnExactNewWorldUptoCard : Claim7 := { stood := { row := fnExactNewWorldUptoRow, standIns := [], harness := (true, "02157d38ed3246fa85d61730f4708fa8c390f9d5a23326e01358c3a3cce31c03"), looks := true }, kinds := [], alts := [], laidByText := true, laidKinds := [.data, .data, .data, .sentinel, .sentinel], laidTests := true, laidLooks := .later }
def FnExactNewWorldUptoCardSaid : Prop := Claim7.holds Tryz.pinned (.plain (OpenSpec.upto fnExactNewWorldSpec)) fnExactNewWorldUptoCard
end Rows
end Go.Proofs.YtjgbkigdnjalkaaGreatDoor
