/-
  NARROWER THAN 'FOR EVERY INPUT', by the rows' own cells (each row's printed sentence says how): FnExactGlobalsOf: loops · FnExactIsModule: loops · FnExactEqualExpanders: loops · FnExactParseModule: loops · FnExactTemplateFits: loops · FnExactIsCore: loops · FnExactIsSimple: loops · FnExactFindExport: loops · FnExactUnitFits: loops · FnExactAlphaEqual: loops · FnExactPatternVariables: loops · FnExactIsRules: loops · FnExactInstantiate: loops · FnExactRenumberCore: loops.
  DERIVED. THE GIVEN ROWS OF THIS SEAT. 16 by the template 'for every input the law returns true; each argument reads behind the call as it read before'; 0 by the template 'total and deterministic' (their statements: YtehpjofddjmbpaaTotals.lean).
  GIVEN WITH THE SEED: the statements are not yours to turn. If you find one false, say at which input.
  Laid BY PROGRAM, IN A SANDBOX (cutbox-rows.mjs): the forced cells as the released guide's own fill.sh prints them over the translation e1eb0aec6cff6aff… (all of the seat's roots in one cut). By AI agents, Wed Nov 11 2026. No macro, syntax, notation, axiom, sorry.
-/
import Derived.Test.YtehpjofddjmbpaaChecked
import GoSem.Claim
import GoSem.ClaimJoined
import GoSem.ClaimMapViews
import Derived.JoinedTies
import Derived.KernelRfl
namespace Go.Proofs.Ytehpjofddjmbpaa
/- THE CELL 'sum', in the pinned program and in every row, IS THE sha256 OF THE DUMP (.gsa) THAT YtehpjofddjmbpaaProg.lean LOADS. Nothing in Lean hashes anything: it is a label: what it is worth is what the hold of that sum in a sandbox is worth. -/
noncomputable def Try.pinned : Pinned := { name := "ytehpjofddjmbpaa", sum := "e1eb0aec6cff6aff6e6a048acabc121ceeb187198be49a88092862bc1e4baaf4", checked := Try.checked }
namespace Rows
def none {H : Type} : Left H := { results := [], args := [] }

/-- 'laws.FnExactNewExpander': WHATEVER THE INPUT: true; the input reads as it did. -/
def fnExactNewExpanderSpec : ChangeSpec := { name := "fnExactNewExpander", fn := fun _ => fun
  | [] => { results := [.lit (.bool true)], args := [] }
  | _ => none }
def fnExactNewExpanderRow : OpenClaim := { program := "ytehpjofddjmbpaa", sum := "e1eb0aec6cff6aff6e6a048acabc121ceeb187198be49a88092862bc1e4baaf4", func := "loop.example/g03220/laws.FnExactNewExpander", spec := "fnExactNewExpander", recurses := true, apart := false }
def FnExactNewExpanderSaid : Prop := fnExactNewExpanderRow.holds Try.pinned (OpenSpec.ofChange fnExactNewExpanderSpec)

/-- ITS FALSE NEIGHBOUR: 'it returns false'. Refute it at one input. -/
def fnExactNewExpanderWrong : ChangeSpec := { name := "fnExactNewExpander", fn := fun _ => fun
  | [] => { results := [.lit (.bool false)], args := [] }
  | _ => none }
def FnExactNewExpanderWrongFalsely : Prop := fnExactNewExpanderRow.holds Try.pinned (OpenSpec.ofChange fnExactNewExpanderWrong)

/-- 'laws.FnExactGlobalsOf': WHATEVER THE INPUT: true; the input reads as it did. -/
def fnExactGlobalsOfSpec : ChangeSpec := { name := "fnExactGlobalsOf", fn := fun _ => fun
  | [d] => { results := [.lit (.bool true)], args := [d] }
  | _ => none }
def fnExactGlobalsOfRow : OpenClaim := { program := "ytehpjofddjmbpaa", sum := "e1eb0aec6cff6aff6e6a048acabc121ceeb187198be49a88092862bc1e4baaf4", func := "loop.example/g03220/laws.FnExactGlobalsOf", spec := "fnExactGlobalsOf", recurses := true, loops := true, apart := false }
def FnExactGlobalsOfSaid : Prop := fnExactGlobalsOfRow.holds Try.pinned (OpenSpec.ofChange fnExactGlobalsOfSpec)

/-- ITS FALSE NEIGHBOUR: 'it returns false'. Refute it at one input. -/
def fnExactGlobalsOfWrong : ChangeSpec := { name := "fnExactGlobalsOf", fn := fun _ => fun
  | [d] => { results := [.lit (.bool false)], args := [d] }
  | _ => none }
def FnExactGlobalsOfWrongFalsely : Prop := fnExactGlobalsOfRow.holds Try.pinned (OpenSpec.ofChange fnExactGlobalsOfWrong)

/-- 'laws.FnExactIsModule': WHATEVER THE INPUT: true; the input reads as it did. -/
def fnExactIsModuleSpec : ChangeSpec := { name := "fnExactIsModule", fn := fun _ => fun
  | [d] => { results := [.lit (.bool true)], args := [d] }
  | _ => none }
def fnExactIsModuleRow : OpenClaim := { program := "ytehpjofddjmbpaa", sum := "e1eb0aec6cff6aff6e6a048acabc121ceeb187198be49a88092862bc1e4baaf4", func := "loop.example/g03220/laws.FnExactIsModule", spec := "fnExactIsModule", recurses := true, loops := true, apart := false }
def FnExactIsModuleSaid : Prop := fnExactIsModuleRow.holds Try.pinned (OpenSpec.ofChange fnExactIsModuleSpec)

/-- ITS FALSE NEIGHBOUR: 'it returns false'. Refute it at one input. -/
def fnExactIsModuleWrong : ChangeSpec := { name := "fnExactIsModule", fn := fun _ => fun
  | [d] => { results := [.lit (.bool false)], args := [d] }
  | _ => none }
def FnExactIsModuleWrongFalsely : Prop := fnExactIsModuleRow.holds Try.pinned (OpenSpec.ofChange fnExactIsModuleWrong)

/-- 'laws.FnExactEqualExpanders': WHATEVER THE INPUT: true; the input reads as it did. -/
def fnExactEqualExpandersSpec : ChangeSpec := { name := "fnExactEqualExpanders", fn := fun _ => fun
  | [d1, d2] => { results := [.lit (.bool true)], args := [d1, d2] }
  | _ => none }
def fnExactEqualExpandersRow : OpenClaim := { program := "ytehpjofddjmbpaa", sum := "e1eb0aec6cff6aff6e6a048acabc121ceeb187198be49a88092862bc1e4baaf4", func := "loop.example/g03220/laws.FnExactEqualExpanders", spec := "fnExactEqualExpanders", recurses := true, loops := true, apart := false }
def FnExactEqualExpandersSaid : Prop := fnExactEqualExpandersRow.holds Try.pinned (OpenSpec.ofChange fnExactEqualExpandersSpec)

/-- ITS FALSE NEIGHBOUR: 'it returns false'. Refute it at one input. -/
def fnExactEqualExpandersWrong : ChangeSpec := { name := "fnExactEqualExpanders", fn := fun _ => fun
  | [d1, d2] => { results := [.lit (.bool false)], args := [d1, d2] }
  | _ => none }
def FnExactEqualExpandersWrongFalsely : Prop := fnExactEqualExpandersRow.holds Try.pinned (OpenSpec.ofChange fnExactEqualExpandersWrong)

/-- 'laws.FnExactParseModule': WHATEVER THE INPUT: true; the input reads as it did. -/
def fnExactParseModuleSpec : ChangeSpec := { name := "fnExactParseModule", fn := fun _ => fun
  | [d] => { results := [.lit (.bool true)], args := [d] }
  | _ => none }
def fnExactParseModuleRow : OpenClaim := { program := "ytehpjofddjmbpaa", sum := "e1eb0aec6cff6aff6e6a048acabc121ceeb187198be49a88092862bc1e4baaf4", func := "loop.example/g03220/laws.FnExactParseModule", spec := "fnExactParseModule", recurses := true, loops := true, apart := false }
def FnExactParseModuleSaid : Prop := fnExactParseModuleRow.holds Try.pinned (OpenSpec.ofChange fnExactParseModuleSpec)

/-- ITS FALSE NEIGHBOUR: 'it returns false'. Refute it at one input. -/
def fnExactParseModuleWrong : ChangeSpec := { name := "fnExactParseModule", fn := fun _ => fun
  | [d] => { results := [.lit (.bool false)], args := [d] }
  | _ => none }
def FnExactParseModuleWrongFalsely : Prop := fnExactParseModuleRow.holds Try.pinned (OpenSpec.ofChange fnExactParseModuleWrong)

/-- 'laws.FnExactTemplateFits': WHATEVER THE INPUT: true; the input reads as it did. -/
def fnExactTemplateFitsSpec : ChangeSpec := { name := "fnExactTemplateFits", fn := fun _ => fun
  | [d1, d2] => { results := [.lit (.bool true)], args := [d1, d2] }
  | _ => none }
def fnExactTemplateFitsRow : OpenClaim := { program := "ytehpjofddjmbpaa", sum := "e1eb0aec6cff6aff6e6a048acabc121ceeb187198be49a88092862bc1e4baaf4", func := "loop.example/g03220/laws.FnExactTemplateFits", spec := "fnExactTemplateFits", recurses := true, loops := true, apart := false }
def FnExactTemplateFitsSaid : Prop := fnExactTemplateFitsRow.holds Try.pinned (OpenSpec.ofChange fnExactTemplateFitsSpec)

/-- ITS FALSE NEIGHBOUR: 'it returns false'. Refute it at one input. -/
def fnExactTemplateFitsWrong : ChangeSpec := { name := "fnExactTemplateFits", fn := fun _ => fun
  | [d1, d2] => { results := [.lit (.bool false)], args := [d1, d2] }
  | _ => none }
def FnExactTemplateFitsWrongFalsely : Prop := fnExactTemplateFitsRow.holds Try.pinned (OpenSpec.ofChange fnExactTemplateFitsWrong)

/-- 'laws.FnExactIsCore': WHATEVER THE INPUT: true; the input reads as it did. -/
def fnExactIsCoreSpec : ChangeSpec := { name := "fnExactIsCore", fn := fun _ => fun
  | [d1, d2] => { results := [.lit (.bool true)], args := [d1, d2] }
  | _ => none }
def fnExactIsCoreRow : OpenClaim := { program := "ytehpjofddjmbpaa", sum := "e1eb0aec6cff6aff6e6a048acabc121ceeb187198be49a88092862bc1e4baaf4", func := "loop.example/g03220/laws.FnExactIsCore", spec := "fnExactIsCore", recurses := true, loops := true, apart := false }
def FnExactIsCoreSaid : Prop := fnExactIsCoreRow.holds Try.pinned (OpenSpec.ofChange fnExactIsCoreSpec)

/-- ITS FALSE NEIGHBOUR: 'it returns false'. Refute it at one input. -/
def fnExactIsCoreWrong : ChangeSpec := { name := "fnExactIsCore", fn := fun _ => fun
  | [d1, d2] => { results := [.lit (.bool false)], args := [d1, d2] }
  | _ => none }
def FnExactIsCoreWrongFalsely : Prop := fnExactIsCoreRow.holds Try.pinned (OpenSpec.ofChange fnExactIsCoreWrong)

/-- 'laws.FnExactIsSimple': WHATEVER THE INPUT: true; the input reads as it did. -/
def fnExactIsSimpleSpec : ChangeSpec := { name := "fnExactIsSimple", fn := fun _ => fun
  | [d1, d2] => { results := [.lit (.bool true)], args := [d1, d2] }
  | _ => none }
def fnExactIsSimpleRow : OpenClaim := { program := "ytehpjofddjmbpaa", sum := "e1eb0aec6cff6aff6e6a048acabc121ceeb187198be49a88092862bc1e4baaf4", func := "loop.example/g03220/laws.FnExactIsSimple", spec := "fnExactIsSimple", recurses := true, loops := true, apart := false }
def FnExactIsSimpleSaid : Prop := fnExactIsSimpleRow.holds Try.pinned (OpenSpec.ofChange fnExactIsSimpleSpec)

/-- ITS FALSE NEIGHBOUR: 'it returns false'. Refute it at one input. -/
def fnExactIsSimpleWrong : ChangeSpec := { name := "fnExactIsSimple", fn := fun _ => fun
  | [d1, d2] => { results := [.lit (.bool false)], args := [d1, d2] }
  | _ => none }
def FnExactIsSimpleWrongFalsely : Prop := fnExactIsSimpleRow.holds Try.pinned (OpenSpec.ofChange fnExactIsSimpleWrong)

/-- 'laws.FnExactFindExport': WHATEVER THE INPUT: true; the input reads as it did. -/
def fnExactFindExportSpec : ChangeSpec := { name := "fnExactFindExport", fn := fun _ => fun
  | [d1, d2, d3] => { results := [.lit (.bool true)], args := [d1, d2, d3] }
  | _ => none }
def fnExactFindExportRow : OpenClaim := { program := "ytehpjofddjmbpaa", sum := "e1eb0aec6cff6aff6e6a048acabc121ceeb187198be49a88092862bc1e4baaf4", func := "loop.example/g03220/laws.FnExactFindExport", spec := "fnExactFindExport", recurses := true, loops := true, apart := false }
def FnExactFindExportSaid : Prop := fnExactFindExportRow.holds Try.pinned (OpenSpec.ofChange fnExactFindExportSpec)

/-- ITS FALSE NEIGHBOUR: 'it returns false'. Refute it at one input. -/
def fnExactFindExportWrong : ChangeSpec := { name := "fnExactFindExport", fn := fun _ => fun
  | [d1, d2, d3] => { results := [.lit (.bool false)], args := [d1, d2, d3] }
  | _ => none }
def FnExactFindExportWrongFalsely : Prop := fnExactFindExportRow.holds Try.pinned (OpenSpec.ofChange fnExactFindExportWrong)

/-- 'laws.FnExactUnitFits': WHATEVER THE INPUT: true; the input reads as it did. -/
def fnExactUnitFitsSpec : ChangeSpec := { name := "fnExactUnitFits", fn := fun _ => fun
  | [d1, d2] => { results := [.lit (.bool true)], args := [d1, d2] }
  | _ => none }
def fnExactUnitFitsRow : OpenClaim := { program := "ytehpjofddjmbpaa", sum := "e1eb0aec6cff6aff6e6a048acabc121ceeb187198be49a88092862bc1e4baaf4", func := "loop.example/g03220/laws.FnExactUnitFits", spec := "fnExactUnitFits", recurses := true, loops := true, apart := false }
def FnExactUnitFitsSaid : Prop := fnExactUnitFitsRow.holds Try.pinned (OpenSpec.ofChange fnExactUnitFitsSpec)

/-- ITS FALSE NEIGHBOUR: 'it returns false'. Refute it at one input. -/
def fnExactUnitFitsWrong : ChangeSpec := { name := "fnExactUnitFits", fn := fun _ => fun
  | [d1, d2] => { results := [.lit (.bool false)], args := [d1, d2] }
  | _ => none }
def FnExactUnitFitsWrongFalsely : Prop := fnExactUnitFitsRow.holds Try.pinned (OpenSpec.ofChange fnExactUnitFitsWrong)

/-- 'laws.FnExactAlphaEqual': WHATEVER THE INPUT: true; the input reads as it did. -/
def fnExactAlphaEqualSpec : ChangeSpec := { name := "fnExactAlphaEqual", fn := fun _ => fun
  | [d1, d2] => { results := [.lit (.bool true)], args := [d1, d2] }
  | _ => none }
def fnExactAlphaEqualRow : OpenClaim := { program := "ytehpjofddjmbpaa", sum := "e1eb0aec6cff6aff6e6a048acabc121ceeb187198be49a88092862bc1e4baaf4", func := "loop.example/g03220/laws.FnExactAlphaEqual", spec := "fnExactAlphaEqual", recurses := true, loops := true, apart := false }
def FnExactAlphaEqualSaid : Prop := fnExactAlphaEqualRow.holds Try.pinned (OpenSpec.ofChange fnExactAlphaEqualSpec)

/-- ITS FALSE NEIGHBOUR: 'it returns false'. Refute it at one input. -/
def fnExactAlphaEqualWrong : ChangeSpec := { name := "fnExactAlphaEqual", fn := fun _ => fun
  | [d1, d2] => { results := [.lit (.bool false)], args := [d1, d2] }
  | _ => none }
def FnExactAlphaEqualWrongFalsely : Prop := fnExactAlphaEqualRow.holds Try.pinned (OpenSpec.ofChange fnExactAlphaEqualWrong)

/-- 'laws.FnAlpha': WHATEVER THE INPUT: true; the input reads as it did. -/
def fnAlphaSpec : ChangeSpec := { name := "fnAlpha", fn := fun _ => fun
  | [d] => { results := [.lit (.bool true)], args := [d] }
  | _ => none }
def fnAlphaRow : OpenClaim := { program := "ytehpjofddjmbpaa", sum := "e1eb0aec6cff6aff6e6a048acabc121ceeb187198be49a88092862bc1e4baaf4", func := "loop.example/g03220/laws.FnAlpha", spec := "fnAlpha", recurses := true, apart := false }
def FnAlphaSaid : Prop := fnAlphaRow.holds Try.pinned (OpenSpec.ofChange fnAlphaSpec)

/-- ITS FALSE NEIGHBOUR: 'it returns false'. Refute it at one input. -/
def fnAlphaWrong : ChangeSpec := { name := "fnAlpha", fn := fun _ => fun
  | [d] => { results := [.lit (.bool false)], args := [d] }
  | _ => none }
def FnAlphaWrongFalsely : Prop := fnAlphaRow.holds Try.pinned (OpenSpec.ofChange fnAlphaWrong)

/-- 'laws.FnExactPatternVariables': WHATEVER THE INPUT: true; the input reads as it did. -/
def fnExactPatternVariablesSpec : ChangeSpec := { name := "fnExactPatternVariables", fn := fun _ => fun
  | [d1, d2] => { results := [.lit (.bool true)], args := [d1, d2] }
  | _ => none }
def fnExactPatternVariablesRow : OpenClaim := { program := "ytehpjofddjmbpaa", sum := "e1eb0aec6cff6aff6e6a048acabc121ceeb187198be49a88092862bc1e4baaf4", func := "loop.example/g03220/laws.FnExactPatternVariables", spec := "fnExactPatternVariables", unfollowed := true, recurses := true, loops := true, apart := false }
def FnExactPatternVariablesSaid : Prop := fnExactPatternVariablesRow.holds Try.pinned (OpenSpec.ofChange fnExactPatternVariablesSpec)

/-- ITS FALSE NEIGHBOUR: 'it returns false'. Refute it at one input. -/
def fnExactPatternVariablesWrong : ChangeSpec := { name := "fnExactPatternVariables", fn := fun _ => fun
  | [d1, d2] => { results := [.lit (.bool false)], args := [d1, d2] }
  | _ => none }
def FnExactPatternVariablesWrongFalsely : Prop := fnExactPatternVariablesRow.holds Try.pinned (OpenSpec.ofChange fnExactPatternVariablesWrong)

/-- 'laws.FnExactIsRules': WHATEVER THE INPUT: true; the input reads as it did. -/
def fnExactIsRulesSpec : ChangeSpec := { name := "fnExactIsRules", fn := fun _ => fun
  | [d] => { results := [.lit (.bool true)], args := [d] }
  | _ => none }
def fnExactIsRulesRow : OpenClaim := { program := "ytehpjofddjmbpaa", sum := "e1eb0aec6cff6aff6e6a048acabc121ceeb187198be49a88092862bc1e4baaf4", func := "loop.example/g03220/laws.FnExactIsRules", spec := "fnExactIsRules", unfollowed := true, recurses := true, loops := true, apart := false }
def FnExactIsRulesSaid : Prop := fnExactIsRulesRow.holds Try.pinned (OpenSpec.ofChange fnExactIsRulesSpec)

/-- ITS FALSE NEIGHBOUR: 'it returns false'. Refute it at one input. -/
def fnExactIsRulesWrong : ChangeSpec := { name := "fnExactIsRules", fn := fun _ => fun
  | [d] => { results := [.lit (.bool false)], args := [d] }
  | _ => none }
def FnExactIsRulesWrongFalsely : Prop := fnExactIsRulesRow.holds Try.pinned (OpenSpec.ofChange fnExactIsRulesWrong)

/-- 'laws.FnExactInstantiate': WHATEVER THE INPUT: true; the input reads as it did. -/
def fnExactInstantiateSpec : ChangeSpec := { name := "fnExactInstantiate", fn := fun _ => fun
  | [d1, d2] => { results := [.lit (.bool true)], args := [d1, d2] }
  | _ => none }
def fnExactInstantiateRow : OpenClaim := { program := "ytehpjofddjmbpaa", sum := "e1eb0aec6cff6aff6e6a048acabc121ceeb187198be49a88092862bc1e4baaf4", func := "loop.example/g03220/laws.FnExactInstantiate", spec := "fnExactInstantiate", unfollowed := true, recurses := true, loops := true, apart := false }
def FnExactInstantiateSaid : Prop := fnExactInstantiateRow.holds Try.pinned (OpenSpec.ofChange fnExactInstantiateSpec)

/-- ITS FALSE NEIGHBOUR: 'it returns false'. Refute it at one input. -/
def fnExactInstantiateWrong : ChangeSpec := { name := "fnExactInstantiate", fn := fun _ => fun
  | [d1, d2] => { results := [.lit (.bool false)], args := [d1, d2] }
  | _ => none }
def FnExactInstantiateWrongFalsely : Prop := fnExactInstantiateRow.holds Try.pinned (OpenSpec.ofChange fnExactInstantiateWrong)

/-- 'laws.FnExactRenumberCore': WHATEVER THE INPUT: true; the input reads as it did. -/
def fnExactRenumberCoreSpec : ChangeSpec := { name := "fnExactRenumberCore", fn := fun _ => fun
  | [d1, d2] => { results := [.lit (.bool true)], args := [d1, d2] }
  | _ => none }
def fnExactRenumberCoreRow : OpenClaim := { program := "ytehpjofddjmbpaa", sum := "e1eb0aec6cff6aff6e6a048acabc121ceeb187198be49a88092862bc1e4baaf4", func := "loop.example/g03220/laws.FnExactRenumberCore", spec := "fnExactRenumberCore", recurses := true, loops := true, apart := false }
def FnExactRenumberCoreSaid : Prop := fnExactRenumberCoreRow.holds Try.pinned (OpenSpec.ofChange fnExactRenumberCoreSpec)

/-- ITS FALSE NEIGHBOUR: 'it returns false'. Refute it at one input. -/
def fnExactRenumberCoreWrong : ChangeSpec := { name := "fnExactRenumberCore", fn := fun _ => fun
  | [d1, d2] => { results := [.lit (.bool false)], args := [d1, d2] }
  | _ => none }
def FnExactRenumberCoreWrongFalsely : Prop := fnExactRenumberCoreRow.holds Try.pinned (OpenSpec.ofChange fnExactRenumberCoreWrong)

/- THE SECOND FORM. 'bulk': how many values and letters a reading holds, each counted each time it is reached (what is shared counts as often as it is met; a slice's spare places count too). A statement '..UptoSaid' is the law's where the arguments, and the package variables that the reading takes, are together of bulk at most 1048576: NARROWER than '..Said'. Prove '..Said' where nothing that the law and all that it calls make is longer than what came in: it says more and counts as full. Else prove '..UptoSaid'. A law counts once. -/
mutual
def uptoBulk {H : Type} : DataW H → Nat
  | .lit (.string bytes) => bytes.length + 1
  | .lit _ => 1
  | .nil => 1
  | .ptr d => uptoBulk d + 1
  | .slice elems spare => uptoBulkAll elems + uptoBulkAll spare + 1
  | .agg parts => uptoBulkAll parts + 1
  | .iface _ d => uptoBulk d + 1
  | .map entries => uptoBulkEntries entries + 1
  | .held _ => 1
def uptoBulkAll {H : Type} : List (DataW H) → Nat
  | [] => 0
  | d :: r => uptoBulk d + uptoBulkAll r
def uptoBulkEntries {H : Type} : List (Lit × DataW H) → Nat
  | [] => 0
  | x :: r => uptoBulkEntry x + uptoBulkEntries r
def uptoBulkEntry {H : Type} : Lit × DataW H → Nat
  | (.string bytes, d) => bytes.length + uptoBulk d + 1
  | (_, d) => uptoBulk d + 1
 end
def uptoSmall : (H : Type) → List (DataW H) → Bool := fun _ ds => decide (uptoBulkAll ds ≤ 1048576)
def OpenSpec.upto (s : _root_.Go.ChangeSpec) : _root_.Go.OpenSpec := { _root_.Go.OpenSpec.ofChange s with cond := some uptoSmall }

/-- 'laws.FnExactNewExpander', WHERE WHAT IT READS IS OF BULK AT MOST 1048576: true; the input reads as it did. -/
def fnExactNewExpanderUptoRow : OpenClaim := { program := "ytehpjofddjmbpaa", sum := "e1eb0aec6cff6aff6e6a048acabc121ceeb187198be49a88092862bc1e4baaf4", func := "loop.example/g03220/laws.FnExactNewExpander", spec := "fnExactNewExpander", recurses := true, apart := false, narrowed := true }
def FnExactNewExpanderUptoSaid : Prop := fnExactNewExpanderUptoRow.holds Try.pinned (OpenSpec.upto fnExactNewExpanderSpec)

/-- 'laws.FnExactGlobalsOf', WHERE WHAT IT READS IS OF BULK AT MOST 1048576: true; the input reads as it did. -/
def fnExactGlobalsOfUptoRow : OpenClaim := { program := "ytehpjofddjmbpaa", sum := "e1eb0aec6cff6aff6e6a048acabc121ceeb187198be49a88092862bc1e4baaf4", func := "loop.example/g03220/laws.FnExactGlobalsOf", spec := "fnExactGlobalsOf", recurses := true, loops := true, apart := false, narrowed := true }
def FnExactGlobalsOfUptoSaid : Prop := fnExactGlobalsOfUptoRow.holds Try.pinned (OpenSpec.upto fnExactGlobalsOfSpec)

/-- 'laws.FnExactIsModule', WHERE WHAT IT READS IS OF BULK AT MOST 1048576: true; the input reads as it did. -/
def fnExactIsModuleUptoRow : OpenClaim := { program := "ytehpjofddjmbpaa", sum := "e1eb0aec6cff6aff6e6a048acabc121ceeb187198be49a88092862bc1e4baaf4", func := "loop.example/g03220/laws.FnExactIsModule", spec := "fnExactIsModule", recurses := true, loops := true, apart := false, narrowed := true }
def FnExactIsModuleUptoSaid : Prop := fnExactIsModuleUptoRow.holds Try.pinned (OpenSpec.upto fnExactIsModuleSpec)

/-- 'laws.FnExactEqualExpanders', WHERE WHAT IT READS IS OF BULK AT MOST 1048576: true; the input reads as it did. -/
def fnExactEqualExpandersUptoRow : OpenClaim := { program := "ytehpjofddjmbpaa", sum := "e1eb0aec6cff6aff6e6a048acabc121ceeb187198be49a88092862bc1e4baaf4", func := "loop.example/g03220/laws.FnExactEqualExpanders", spec := "fnExactEqualExpanders", recurses := true, loops := true, apart := false, narrowed := true }
def FnExactEqualExpandersUptoSaid : Prop := fnExactEqualExpandersUptoRow.holds Try.pinned (OpenSpec.upto fnExactEqualExpandersSpec)

/-- 'laws.FnExactParseModule', WHERE WHAT IT READS IS OF BULK AT MOST 1048576: true; the input reads as it did. -/
def fnExactParseModuleUptoRow : OpenClaim := { program := "ytehpjofddjmbpaa", sum := "e1eb0aec6cff6aff6e6a048acabc121ceeb187198be49a88092862bc1e4baaf4", func := "loop.example/g03220/laws.FnExactParseModule", spec := "fnExactParseModule", recurses := true, loops := true, apart := false, narrowed := true }
def FnExactParseModuleUptoSaid : Prop := fnExactParseModuleUptoRow.holds Try.pinned (OpenSpec.upto fnExactParseModuleSpec)

/-- 'laws.FnExactTemplateFits', WHERE WHAT IT READS IS OF BULK AT MOST 1048576: true; the input reads as it did. -/
def fnExactTemplateFitsUptoRow : OpenClaim := { program := "ytehpjofddjmbpaa", sum := "e1eb0aec6cff6aff6e6a048acabc121ceeb187198be49a88092862bc1e4baaf4", func := "loop.example/g03220/laws.FnExactTemplateFits", spec := "fnExactTemplateFits", recurses := true, loops := true, apart := false, narrowed := true }
def FnExactTemplateFitsUptoSaid : Prop := fnExactTemplateFitsUptoRow.holds Try.pinned (OpenSpec.upto fnExactTemplateFitsSpec)

/-- 'laws.FnExactIsCore', WHERE WHAT IT READS IS OF BULK AT MOST 1048576: true; the input reads as it did. -/
def fnExactIsCoreUptoRow : OpenClaim := { program := "ytehpjofddjmbpaa", sum := "e1eb0aec6cff6aff6e6a048acabc121ceeb187198be49a88092862bc1e4baaf4", func := "loop.example/g03220/laws.FnExactIsCore", spec := "fnExactIsCore", recurses := true, loops := true, apart := false, narrowed := true }
def FnExactIsCoreUptoSaid : Prop := fnExactIsCoreUptoRow.holds Try.pinned (OpenSpec.upto fnExactIsCoreSpec)

/-- 'laws.FnExactIsSimple', WHERE WHAT IT READS IS OF BULK AT MOST 1048576: true; the input reads as it did. -/
def fnExactIsSimpleUptoRow : OpenClaim := { program := "ytehpjofddjmbpaa", sum := "e1eb0aec6cff6aff6e6a048acabc121ceeb187198be49a88092862bc1e4baaf4", func := "loop.example/g03220/laws.FnExactIsSimple", spec := "fnExactIsSimple", recurses := true, loops := true, apart := false, narrowed := true }
def FnExactIsSimpleUptoSaid : Prop := fnExactIsSimpleUptoRow.holds Try.pinned (OpenSpec.upto fnExactIsSimpleSpec)

/-- 'laws.FnExactFindExport', WHERE WHAT IT READS IS OF BULK AT MOST 1048576: true; the input reads as it did. -/
def fnExactFindExportUptoRow : OpenClaim := { program := "ytehpjofddjmbpaa", sum := "e1eb0aec6cff6aff6e6a048acabc121ceeb187198be49a88092862bc1e4baaf4", func := "loop.example/g03220/laws.FnExactFindExport", spec := "fnExactFindExport", recurses := true, loops := true, apart := false, narrowed := true }
def FnExactFindExportUptoSaid : Prop := fnExactFindExportUptoRow.holds Try.pinned (OpenSpec.upto fnExactFindExportSpec)

/-- 'laws.FnExactUnitFits', WHERE WHAT IT READS IS OF BULK AT MOST 1048576: true; the input reads as it did. -/
def fnExactUnitFitsUptoRow : OpenClaim := { program := "ytehpjofddjmbpaa", sum := "e1eb0aec6cff6aff6e6a048acabc121ceeb187198be49a88092862bc1e4baaf4", func := "loop.example/g03220/laws.FnExactUnitFits", spec := "fnExactUnitFits", recurses := true, loops := true, apart := false, narrowed := true }
def FnExactUnitFitsUptoSaid : Prop := fnExactUnitFitsUptoRow.holds Try.pinned (OpenSpec.upto fnExactUnitFitsSpec)

/-- 'laws.FnExactAlphaEqual', WHERE WHAT IT READS IS OF BULK AT MOST 1048576: true; the input reads as it did. -/
def fnExactAlphaEqualUptoRow : OpenClaim := { program := "ytehpjofddjmbpaa", sum := "e1eb0aec6cff6aff6e6a048acabc121ceeb187198be49a88092862bc1e4baaf4", func := "loop.example/g03220/laws.FnExactAlphaEqual", spec := "fnExactAlphaEqual", recurses := true, loops := true, apart := false, narrowed := true }
def FnExactAlphaEqualUptoSaid : Prop := fnExactAlphaEqualUptoRow.holds Try.pinned (OpenSpec.upto fnExactAlphaEqualSpec)

/-- 'laws.FnAlpha', WHERE WHAT IT READS IS OF BULK AT MOST 1048576: true; the input reads as it did. -/
def fnAlphaUptoRow : OpenClaim := { program := "ytehpjofddjmbpaa", sum := "e1eb0aec6cff6aff6e6a048acabc121ceeb187198be49a88092862bc1e4baaf4", func := "loop.example/g03220/laws.FnAlpha", spec := "fnAlpha", recurses := true, apart := false, narrowed := true }
def FnAlphaUptoSaid : Prop := fnAlphaUptoRow.holds Try.pinned (OpenSpec.upto fnAlphaSpec)

/-- 'laws.FnExactPatternVariables', WHERE WHAT IT READS IS OF BULK AT MOST 1048576: true; the input reads as it did. -/
def fnExactPatternVariablesUptoRow : OpenClaim := { program := "ytehpjofddjmbpaa", sum := "e1eb0aec6cff6aff6e6a048acabc121ceeb187198be49a88092862bc1e4baaf4", func := "loop.example/g03220/laws.FnExactPatternVariables", spec := "fnExactPatternVariables", unfollowed := true, recurses := true, loops := true, apart := false, narrowed := true }
def FnExactPatternVariablesUptoSaid : Prop := fnExactPatternVariablesUptoRow.holds Try.pinned (OpenSpec.upto fnExactPatternVariablesSpec)

/-- 'laws.FnExactIsRules', WHERE WHAT IT READS IS OF BULK AT MOST 1048576: true; the input reads as it did. -/
def fnExactIsRulesUptoRow : OpenClaim := { program := "ytehpjofddjmbpaa", sum := "e1eb0aec6cff6aff6e6a048acabc121ceeb187198be49a88092862bc1e4baaf4", func := "loop.example/g03220/laws.FnExactIsRules", spec := "fnExactIsRules", unfollowed := true, recurses := true, loops := true, apart := false, narrowed := true }
def FnExactIsRulesUptoSaid : Prop := fnExactIsRulesUptoRow.holds Try.pinned (OpenSpec.upto fnExactIsRulesSpec)

/-- 'laws.FnExactInstantiate', WHERE WHAT IT READS IS OF BULK AT MOST 1048576: true; the input reads as it did. -/
def fnExactInstantiateUptoRow : OpenClaim := { program := "ytehpjofddjmbpaa", sum := "e1eb0aec6cff6aff6e6a048acabc121ceeb187198be49a88092862bc1e4baaf4", func := "loop.example/g03220/laws.FnExactInstantiate", spec := "fnExactInstantiate", unfollowed := true, recurses := true, loops := true, apart := false, narrowed := true }
def FnExactInstantiateUptoSaid : Prop := fnExactInstantiateUptoRow.holds Try.pinned (OpenSpec.upto fnExactInstantiateSpec)

/-- 'laws.FnExactRenumberCore', WHERE WHAT IT READS IS OF BULK AT MOST 1048576: true; the input reads as it did. -/
def fnExactRenumberCoreUptoRow : OpenClaim := { program := "ytehpjofddjmbpaa", sum := "e1eb0aec6cff6aff6e6a048acabc121ceeb187198be49a88092862bc1e4baaf4", func := "loop.example/g03220/laws.FnExactRenumberCore", spec := "fnExactRenumberCore", recurses := true, loops := true, apart := false, narrowed := true }
def FnExactRenumberCoreUptoSaid : Prop := fnExactRenumberCoreUptoRow.holds Try.pinned (OpenSpec.upto fnExactRenumberCoreSpec)

end Rows
end Go.Proofs.Ytehpjofddjmbpaa
