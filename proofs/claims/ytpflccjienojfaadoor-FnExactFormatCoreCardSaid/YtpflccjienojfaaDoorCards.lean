/-
  DERIVED. GIVEN WITH THE SEED: THE CARDS: each row of YtpflccjienojfaaDoorRows.lean that lists a variable, with what it lists TIED to the program's text (the seventh form; the later family's looks); each row that meets fmt, with fmt's text TOLD by the authors' own Lean function (tested against real Go, not proved from fmt's source: count such statements apart). THE CARD IS WHAT COUNTS. Prove the row's statement (the work); the ties are given (YtpflccjienojfaaDoorTie.lean); close each card by the builder's one call (the guide's Derived/Test/ToyasCard.lean, 'card_holds'). Laid BY PROGRAM, IN A SANDBOX (cutbox-door.mjs). By AI agents, Wed Nov 11 2026. No macro, syntax, notation, axiom, sorry.
-/
import Derived.Test.YtpflccjienojfaaDoorRows
import GoSem.ClaimSeven
namespace Go.Proofs.YtpflccjienojfaaDoor
namespace Rows

/-- THE TIED CARD OF 'laws.FnExactFormatModule'. -/
def fnExactFormatModuleCard : Claim7 := { stood := { row := fnExactFormatModuleRow, standIns := [], harness := (true, "b93aa6764d1bd260014c28ef573b93071ce7b503f6b48c232bf3dd731b1c659b"), looks := true }, kinds := [], alts := [], laidByText := true, laidKinds := [.data, .data, .data], laidTests := true, laidLooks := .later }
def FnExactFormatModuleCardSaid : Prop := Claim7.holds Tryd.pinned (.plain (OpenSpec.ofChange fnExactFormatModuleSpec)) fnExactFormatModuleCard

/-- THE TIED CARD OF 'laws.FnExactFormatCore'. -/
def fnExactFormatCoreCard : Claim7 := { stood := { row := fnExactFormatCoreRow, standIns := [], harness := (true, "b93aa6764d1bd260014c28ef573b93071ce7b503f6b48c232bf3dd731b1c659b"), looks := true }, kinds := [], alts := [], laidByText := true, laidKinds := [.data, .data, .data], laidTests := true, laidLooks := .later }
def FnExactFormatCoreCardSaid : Prop := Claim7.holds Tryd.pinned (.plain (OpenSpec.ofChange fnExactFormatCoreSpec)) fnExactFormatCoreCard

/-- THE TIED CARD OF 'laws.FnExactUnparseCore'. -/
def fnExactUnparseCoreCard : Claim7 := { stood := { row := fnExactUnparseCoreRow, standIns := [], harness := (true, "b93aa6764d1bd260014c28ef573b93071ce7b503f6b48c232bf3dd731b1c659b"), looks := true }, kinds := [], alts := [], laidByText := true, laidKinds := [.data, .data, .data], laidTests := true, laidLooks := .later }
def FnExactUnparseCoreCardSaid : Prop := Claim7.holds Tryd.pinned (.plain (OpenSpec.ofChange fnExactUnparseCoreSpec)) fnExactUnparseCoreCard

/-- THE TIED CARD OF 'laws.FnModuleText'. -/
def fnModuleTextCard : Claim7 := { stood := { row := fnModuleTextRow, standIns := [], harness := (true, "b93aa6764d1bd260014c28ef573b93071ce7b503f6b48c232bf3dd731b1c659b"), looks := true }, kinds := [], alts := [], laidByText := true, laidKinds := [.data, .data, .data, .sentinel, .sentinel], laidTests := true, laidLooks := .later }
def FnModuleTextCardSaid : Prop := Claim7.holds Tryd.pinned (.plain (OpenSpec.ofChange fnModuleTextSpec)) fnModuleTextCard

/-- THE SECOND FORM's CARD OF 'laws.FnExactFormatModule'. -/
def fnExactFormatModuleUptoCard : Claim7 := { stood := { row := fnExactFormatModuleUptoRow, standIns := [], harness := (true, "b93aa6764d1bd260014c28ef573b93071ce7b503f6b48c232bf3dd731b1c659b"), looks := true }, kinds := [], alts := [], laidByText := true, laidKinds := [.data, .data, .data], laidTests := true, laidLooks := .later }
def FnExactFormatModuleUptoCardSaid : Prop := Claim7.holds Tryd.pinned (.plain (OpenSpec.upto fnExactFormatModuleSpec)) fnExactFormatModuleUptoCard

/-- THE SECOND FORM's CARD OF 'laws.FnExactFormatCore'. -/
def fnExactFormatCoreUptoCard : Claim7 := { stood := { row := fnExactFormatCoreUptoRow, standIns := [], harness := (true, "b93aa6764d1bd260014c28ef573b93071ce7b503f6b48c232bf3dd731b1c659b"), looks := true }, kinds := [], alts := [], laidByText := true, laidKinds := [.data, .data, .data], laidTests := true, laidLooks := .later }
def FnExactFormatCoreUptoCardSaid : Prop := Claim7.holds Tryd.pinned (.plain (OpenSpec.upto fnExactFormatCoreSpec)) fnExactFormatCoreUptoCard

/-- THE SECOND FORM's CARD OF 'laws.FnExactUnparseCore'. -/
def fnExactUnparseCoreUptoCard : Claim7 := { stood := { row := fnExactUnparseCoreUptoRow, standIns := [], harness := (true, "b93aa6764d1bd260014c28ef573b93071ce7b503f6b48c232bf3dd731b1c659b"), looks := true }, kinds := [], alts := [], laidByText := true, laidKinds := [.data, .data, .data], laidTests := true, laidLooks := .later }
def FnExactUnparseCoreUptoCardSaid : Prop := Claim7.holds Tryd.pinned (.plain (OpenSpec.upto fnExactUnparseCoreSpec)) fnExactUnparseCoreUptoCard

/-- THE SECOND FORM's CARD OF 'laws.FnModuleText'. -/
def fnModuleTextUptoCard : Claim7 := { stood := { row := fnModuleTextUptoRow, standIns := [], harness := (true, "b93aa6764d1bd260014c28ef573b93071ce7b503f6b48c232bf3dd731b1c659b"), looks := true }, kinds := [], alts := [], laidByText := true, laidKinds := [.data, .data, .data, .sentinel, .sentinel], laidTests := true, laidLooks := .later }
def FnModuleTextUptoCardSaid : Prop := Claim7.holds Tryd.pinned (.plain (OpenSpec.upto fnModuleTextSpec)) fnModuleTextUptoCard
end Rows
end Go.Proofs.YtpflccjienojfaaDoor
