/-
  NARROWER THAN 'FOR EVERY INPUT', by the rows' own cells (each row's printed sentence says how): FnExactProgramOf: loops · FnExactIsExpander: loops · FnExactMatchPattern: loops · FnExactParseRules: loops · FnExactFreshScope: loops · FnExactBindVariable: loops · FnExactBindMacro: loops · FnExactApplyRules: loops.
  DERIVED. THE GIVEN ROWS OF THIS SEAT. 8 by the template 'for every input the law returns true; each argument reads behind the call as it read before'; 0 by the template 'total and deterministic' (their statements: YtegbadciefljcaaGreatTotals.lean).
  GIVEN WITH THE SEED: the statements are not yours to turn. If you find one false, say at which input.
  Laid BY PROGRAM, IN A SANDBOX (cutbox-rows.mjs): the forced cells as the released guide's own fill.sh prints them over the translation 591bd28247a11233… (all of the seat's roots in one cut). By AI agents, Wed Nov 11 2026. No macro, syntax, notation, axiom, sorry.
-/
import Derived.Test.YtegbadciefljcaaGreatChecked
import GoSem.Claim
import GoSem.ClaimJoined
import GoSem.ClaimMapViews
import Derived.JoinedTies
import Derived.KernelRfl
namespace Go.Proofs.YtegbadciefljcaaGreat
/- THE CELL 'sum', in the pinned program and in every row, IS THE sha256 OF THE DUMP (.gsa) THAT YtegbadciefljcaaGreatProg.lean LOADS. Nothing in Lean hashes anything: it is a label: what it is worth is what the hold of that sum in a sandbox is worth. -/
noncomputable def Tryz.pinned : Pinned := { name := "ytegbadciefljcaagreat", sum := "591bd28247a11233bb49e751335c727d8ec5dc185ebdc7a453fe1a0a1fe64a22", checked := Tryz.checked }
namespace Rows
def none {H : Type} : Left H := { results := [], args := [] }

/-- 'laws.FnExactProgramOf': WHATEVER THE INPUT: true; the input reads as it did. -/
def fnExactProgramOfSpec : ChangeSpec := { name := "fnExactProgramOf", fn := fun _ => fun
  | [d] => { results := [.lit (.bool true)], args := [d] }
  | _ => none }
def fnExactProgramOfRow : OpenClaim := { program := "ytegbadciefljcaagreat", sum := "591bd28247a11233bb49e751335c727d8ec5dc185ebdc7a453fe1a0a1fe64a22", func := "loop.example/g03220/laws.FnExactProgramOf", spec := "fnExactProgramOf", recurses := true, loops := true, apart := false }
def FnExactProgramOfSaid : Prop := fnExactProgramOfRow.holds Tryz.pinned (OpenSpec.ofChange fnExactProgramOfSpec)

/-- ITS FALSE NEIGHBOUR: 'it returns false'. Refute it at one input. -/
def fnExactProgramOfWrong : ChangeSpec := { name := "fnExactProgramOf", fn := fun _ => fun
  | [d] => { results := [.lit (.bool false)], args := [d] }
  | _ => none }
def FnExactProgramOfWrongFalsely : Prop := fnExactProgramOfRow.holds Tryz.pinned (OpenSpec.ofChange fnExactProgramOfWrong)

/-- 'laws.FnExactIsExpander': WHATEVER THE INPUT: true; the input reads as it did. -/
def fnExactIsExpanderSpec : ChangeSpec := { name := "fnExactIsExpander", fn := fun _ => fun
  | [d] => { results := [.lit (.bool true)], args := [d] }
  | _ => none }
def fnExactIsExpanderRow : OpenClaim := { program := "ytegbadciefljcaagreat", sum := "591bd28247a11233bb49e751335c727d8ec5dc185ebdc7a453fe1a0a1fe64a22", func := "loop.example/g03220/laws.FnExactIsExpander", spec := "fnExactIsExpander", unfollowed := true, recurses := true, loops := true, apart := false }
def FnExactIsExpanderSaid : Prop := fnExactIsExpanderRow.holds Tryz.pinned (OpenSpec.ofChange fnExactIsExpanderSpec)

/-- ITS FALSE NEIGHBOUR: 'it returns false'. Refute it at one input. -/
def fnExactIsExpanderWrong : ChangeSpec := { name := "fnExactIsExpander", fn := fun _ => fun
  | [d] => { results := [.lit (.bool false)], args := [d] }
  | _ => none }
def FnExactIsExpanderWrongFalsely : Prop := fnExactIsExpanderRow.holds Tryz.pinned (OpenSpec.ofChange fnExactIsExpanderWrong)

/-- 'laws.FnExactMatchPattern': WHATEVER THE INPUT: true; the input reads as it did. -/
def fnExactMatchPatternSpec : ChangeSpec := { name := "fnExactMatchPattern", fn := fun _ => fun
  | [d1, d2, d3, d4] => { results := [.lit (.bool true)], args := [d1, d2, d3, d4] }
  | _ => none }
def fnExactMatchPatternRow : OpenClaim := { program := "ytegbadciefljcaagreat", sum := "591bd28247a11233bb49e751335c727d8ec5dc185ebdc7a453fe1a0a1fe64a22", func := "loop.example/g03220/laws.FnExactMatchPattern", spec := "fnExactMatchPattern", unfollowed := true, recurses := true, loops := true, apart := false }
def FnExactMatchPatternSaid : Prop := fnExactMatchPatternRow.holds Tryz.pinned (OpenSpec.ofChange fnExactMatchPatternSpec)

/-- ITS FALSE NEIGHBOUR: 'it returns false'. Refute it at one input. -/
def fnExactMatchPatternWrong : ChangeSpec := { name := "fnExactMatchPattern", fn := fun _ => fun
  | [d1, d2, d3, d4] => { results := [.lit (.bool false)], args := [d1, d2, d3, d4] }
  | _ => none }
def FnExactMatchPatternWrongFalsely : Prop := fnExactMatchPatternRow.holds Tryz.pinned (OpenSpec.ofChange fnExactMatchPatternWrong)

/-- 'laws.FnExactParseRules': WHATEVER THE INPUT: true; the input reads as it did. -/
def fnExactParseRulesSpec : ChangeSpec := { name := "fnExactParseRules", fn := fun _ => fun
  | [d1, d2] => { results := [.lit (.bool true)], args := [d1, d2] }
  | _ => none }
def fnExactParseRulesRow : OpenClaim := { program := "ytegbadciefljcaagreat", sum := "591bd28247a11233bb49e751335c727d8ec5dc185ebdc7a453fe1a0a1fe64a22", func := "loop.example/g03220/laws.FnExactParseRules", spec := "fnExactParseRules", unfollowed := true, recurses := true, loops := true, apart := false }
def FnExactParseRulesSaid : Prop := fnExactParseRulesRow.holds Tryz.pinned (OpenSpec.ofChange fnExactParseRulesSpec)

/-- ITS FALSE NEIGHBOUR: 'it returns false'. Refute it at one input. -/
def fnExactParseRulesWrong : ChangeSpec := { name := "fnExactParseRules", fn := fun _ => fun
  | [d1, d2] => { results := [.lit (.bool false)], args := [d1, d2] }
  | _ => none }
def FnExactParseRulesWrongFalsely : Prop := fnExactParseRulesRow.holds Tryz.pinned (OpenSpec.ofChange fnExactParseRulesWrong)

/-- 'laws.FnExactFreshScope': WHATEVER THE INPUT: true; the input reads as it did. -/
def fnExactFreshScopeSpec : ChangeSpec := { name := "fnExactFreshScope", fn := fun _ => fun
  | [d1, d2] => { results := [.lit (.bool true)], args := [d1, d2] }
  | _ => none }
def fnExactFreshScopeRow : OpenClaim := { program := "ytegbadciefljcaagreat", sum := "591bd28247a11233bb49e751335c727d8ec5dc185ebdc7a453fe1a0a1fe64a22", func := "loop.example/g03220/laws.FnExactFreshScope", spec := "fnExactFreshScope", unfollowed := true, recurses := true, loops := true, apart := false }
def FnExactFreshScopeSaid : Prop := fnExactFreshScopeRow.holds Tryz.pinned (OpenSpec.ofChange fnExactFreshScopeSpec)

/-- ITS FALSE NEIGHBOUR: 'it returns false'. Refute it at one input. -/
def fnExactFreshScopeWrong : ChangeSpec := { name := "fnExactFreshScope", fn := fun _ => fun
  | [d1, d2] => { results := [.lit (.bool false)], args := [d1, d2] }
  | _ => none }
def FnExactFreshScopeWrongFalsely : Prop := fnExactFreshScopeRow.holds Tryz.pinned (OpenSpec.ofChange fnExactFreshScopeWrong)

/-- 'laws.FnExactBindVariable': WHATEVER THE INPUT: true; the input reads as it did. -/
def fnExactBindVariableSpec : ChangeSpec := { name := "fnExactBindVariable", fn := fun _ => fun
  | [d1, d2] => { results := [.lit (.bool true)], args := [d1, d2] }
  | _ => none }
def fnExactBindVariableRow : OpenClaim := { program := "ytegbadciefljcaagreat", sum := "591bd28247a11233bb49e751335c727d8ec5dc185ebdc7a453fe1a0a1fe64a22", func := "loop.example/g03220/laws.FnExactBindVariable", spec := "fnExactBindVariable", unfollowed := true, recurses := true, loops := true, apart := false }
def FnExactBindVariableSaid : Prop := fnExactBindVariableRow.holds Tryz.pinned (OpenSpec.ofChange fnExactBindVariableSpec)

/-- ITS FALSE NEIGHBOUR: 'it returns false'. Refute it at one input. -/
def fnExactBindVariableWrong : ChangeSpec := { name := "fnExactBindVariable", fn := fun _ => fun
  | [d1, d2] => { results := [.lit (.bool false)], args := [d1, d2] }
  | _ => none }
def FnExactBindVariableWrongFalsely : Prop := fnExactBindVariableRow.holds Tryz.pinned (OpenSpec.ofChange fnExactBindVariableWrong)

/-- 'laws.FnExactBindMacro': WHATEVER THE INPUT: true; the input reads as it did. -/
def fnExactBindMacroSpec : ChangeSpec := { name := "fnExactBindMacro", fn := fun _ => fun
  | [d1, d2, d3] => { results := [.lit (.bool true)], args := [d1, d2, d3] }
  | _ => none }
def fnExactBindMacroRow : OpenClaim := { program := "ytegbadciefljcaagreat", sum := "591bd28247a11233bb49e751335c727d8ec5dc185ebdc7a453fe1a0a1fe64a22", func := "loop.example/g03220/laws.FnExactBindMacro", spec := "fnExactBindMacro", unfollowed := true, recurses := true, loops := true, apart := false }
def FnExactBindMacroSaid : Prop := fnExactBindMacroRow.holds Tryz.pinned (OpenSpec.ofChange fnExactBindMacroSpec)

/-- ITS FALSE NEIGHBOUR: 'it returns false'. Refute it at one input. -/
def fnExactBindMacroWrong : ChangeSpec := { name := "fnExactBindMacro", fn := fun _ => fun
  | [d1, d2, d3] => { results := [.lit (.bool false)], args := [d1, d2, d3] }
  | _ => none }
def FnExactBindMacroWrongFalsely : Prop := fnExactBindMacroRow.holds Tryz.pinned (OpenSpec.ofChange fnExactBindMacroWrong)

/-- 'laws.FnExactApplyRules': WHATEVER THE INPUT: true; the input reads as it did. -/
def fnExactApplyRulesSpec : ChangeSpec := { name := "fnExactApplyRules", fn := fun _ => fun
  | [d1, d2, d3] => { results := [.lit (.bool true)], args := [d1, d2, d3] }
  | _ => none }
def fnExactApplyRulesRow : OpenClaim := { program := "ytegbadciefljcaagreat", sum := "591bd28247a11233bb49e751335c727d8ec5dc185ebdc7a453fe1a0a1fe64a22", func := "loop.example/g03220/laws.FnExactApplyRules", spec := "fnExactApplyRules", unfollowed := true, recurses := true, loops := true, apart := false }
def FnExactApplyRulesSaid : Prop := fnExactApplyRulesRow.holds Tryz.pinned (OpenSpec.ofChange fnExactApplyRulesSpec)

/-- ITS FALSE NEIGHBOUR: 'it returns false'. Refute it at one input. -/
def fnExactApplyRulesWrong : ChangeSpec := { name := "fnExactApplyRules", fn := fun _ => fun
  | [d1, d2, d3] => { results := [.lit (.bool false)], args := [d1, d2, d3] }
  | _ => none }
def FnExactApplyRulesWrongFalsely : Prop := fnExactApplyRulesRow.holds Tryz.pinned (OpenSpec.ofChange fnExactApplyRulesWrong)

/- THE SECOND FORM. 'bulk': how many values and letters a reading holds, each counted each time it is reached (what is shared counts as often as it is met; a slice's spare places count too). A statement '..UptoSaid' is the law's where the arguments, and the package variables that the reading takes, are together of bulk at most 1048576: NARROWER than '..Said'. Prove '..Said' where nothing that the law and all that it calls make is longer than what came in: it says more and counts as full. Else prove '..UptoSaid'. A law counts once. -/
mutual
def uptoBulk {H : Type} : DataW H → Nat
  | .lit (.string bytes) => bytes.length + 1
  | .lit _ => 1
  | .nil => 1
  | .ptr d => uptoBulk d + 1
  | .slice elems spare => uptoBulkAll elems + uptoBulkAll spare + 1
  | .agg parts => uptoBulkAll parts + 1
  | .iface _ d => uptoBulk d + 1
  | .map entries => uptoBulkEntries entries + 1
  | .held _ => 1
def uptoBulkAll {H : Type} : List (DataW H) → Nat
  | [] => 0
  | d :: r => uptoBulk d + uptoBulkAll r
def uptoBulkEntries {H : Type} : List (Lit × DataW H) → Nat
  | [] => 0
  | x :: r => uptoBulkEntry x + uptoBulkEntries r
def uptoBulkEntry {H : Type} : Lit × DataW H → Nat
  | (.string bytes, d) => bytes.length + uptoBulk d + 1
  | (_, d) => uptoBulk d + 1
 end
def uptoSmall : (H : Type) → List (DataW H) → Bool := fun _ ds => decide (uptoBulkAll ds ≤ 1048576)
def OpenSpec.upto (s : _root_.Go.ChangeSpec) : _root_.Go.OpenSpec := { _root_.Go.OpenSpec.ofChange s with cond := some uptoSmall }

/-- 'laws.FnExactProgramOf', WHERE WHAT IT READS IS OF BULK AT MOST 1048576: true; the input reads as it did. -/
def fnExactProgramOfUptoRow : OpenClaim := { program := "ytegbadciefljcaagreat", sum := "591bd28247a11233bb49e751335c727d8ec5dc185ebdc7a453fe1a0a1fe64a22", func := "loop.example/g03220/laws.FnExactProgramOf", spec := "fnExactProgramOf", recurses := true, loops := true, apart := false, narrowed := true }
def FnExactProgramOfUptoSaid : Prop := fnExactProgramOfUptoRow.holds Tryz.pinned (OpenSpec.upto fnExactProgramOfSpec)

/-- 'laws.FnExactIsExpander', WHERE WHAT IT READS IS OF BULK AT MOST 1048576: true; the input reads as it did. -/
def fnExactIsExpanderUptoRow : OpenClaim := { program := "ytegbadciefljcaagreat", sum := "591bd28247a11233bb49e751335c727d8ec5dc185ebdc7a453fe1a0a1fe64a22", func := "loop.example/g03220/laws.FnExactIsExpander", spec := "fnExactIsExpander", unfollowed := true, recurses := true, loops := true, apart := false, narrowed := true }
def FnExactIsExpanderUptoSaid : Prop := fnExactIsExpanderUptoRow.holds Tryz.pinned (OpenSpec.upto fnExactIsExpanderSpec)

/-- 'laws.FnExactMatchPattern', WHERE WHAT IT READS IS OF BULK AT MOST 1048576: true; the input reads as it did. -/
def fnExactMatchPatternUptoRow : OpenClaim := { program := "ytegbadciefljcaagreat", sum := "591bd28247a11233bb49e751335c727d8ec5dc185ebdc7a453fe1a0a1fe64a22", func := "loop.example/g03220/laws.FnExactMatchPattern", spec := "fnExactMatchPattern", unfollowed := true, recurses := true, loops := true, apart := false, narrowed := true }
def FnExactMatchPatternUptoSaid : Prop := fnExactMatchPatternUptoRow.holds Tryz.pinned (OpenSpec.upto fnExactMatchPatternSpec)

/-- 'laws.FnExactParseRules', WHERE WHAT IT READS IS OF BULK AT MOST 1048576: true; the input reads as it did. -/
def fnExactParseRulesUptoRow : OpenClaim := { program := "ytegbadciefljcaagreat", sum := "591bd28247a11233bb49e751335c727d8ec5dc185ebdc7a453fe1a0a1fe64a22", func := "loop.example/g03220/laws.FnExactParseRules", spec := "fnExactParseRules", unfollowed := true, recurses := true, loops := true, apart := false, narrowed := true }
def FnExactParseRulesUptoSaid : Prop := fnExactParseRulesUptoRow.holds Tryz.pinned (OpenSpec.upto fnExactParseRulesSpec)

/-- 'laws.FnExactFreshScope', WHERE WHAT IT READS IS OF BULK AT MOST 1048576: true; the input reads as it did. -/
def fnExactFreshScopeUptoRow : OpenClaim := { program := "ytegbadciefljcaagreat", sum := "591bd28247a11233bb49e751335c727d8ec5dc185ebdc7a453fe1a0a1fe64a22", func := "loop.example/g03220/laws.FnExactFreshScope", spec := "fnExactFreshScope", unfollowed := true, recurses := true, loops := true, apart := false, narrowed := true }
def FnExactFreshScopeUptoSaid : Prop := fnExactFreshScopeUptoRow.holds Tryz.pinned (OpenSpec.upto fnExactFreshScopeSpec)

/-- 'laws.FnExactBindVariable', WHERE WHAT IT READS IS OF BULK AT MOST 1048576: true; the input reads as it did. -/
def fnExactBindVariableUptoRow : OpenClaim := { program := "ytegbadciefljcaagreat", sum := "591bd28247a11233bb49e751335c727d8ec5dc185ebdc7a453fe1a0a1fe64a22", func := "loop.example/g03220/laws.FnExactBindVariable", spec := "fnExactBindVariable", unfollowed := true, recurses := true, loops := true, apart := false, narrowed := true }
def FnExactBindVariableUptoSaid : Prop := fnExactBindVariableUptoRow.holds Tryz.pinned (OpenSpec.upto fnExactBindVariableSpec)

/-- 'laws.FnExactBindMacro', WHERE WHAT IT READS IS OF BULK AT MOST 1048576: true; the input reads as it did. -/
def fnExactBindMacroUptoRow : OpenClaim := { program := "ytegbadciefljcaagreat", sum := "591bd28247a11233bb49e751335c727d8ec5dc185ebdc7a453fe1a0a1fe64a22", func := "loop.example/g03220/laws.FnExactBindMacro", spec := "fnExactBindMacro", unfollowed := true, recurses := true, loops := true, apart := false, narrowed := true }
def FnExactBindMacroUptoSaid : Prop := fnExactBindMacroUptoRow.holds Tryz.pinned (OpenSpec.upto fnExactBindMacroSpec)

/-- 'laws.FnExactApplyRules', WHERE WHAT IT READS IS OF BULK AT MOST 1048576: true; the input reads as it did. -/
def fnExactApplyRulesUptoRow : OpenClaim := { program := "ytegbadciefljcaagreat", sum := "591bd28247a11233bb49e751335c727d8ec5dc185ebdc7a453fe1a0a1fe64a22", func := "loop.example/g03220/laws.FnExactApplyRules", spec := "fnExactApplyRules", unfollowed := true, recurses := true, loops := true, apart := false, narrowed := true }
def FnExactApplyRulesUptoSaid : Prop := fnExactApplyRulesUptoRow.holds Tryz.pinned (OpenSpec.upto fnExactApplyRulesSpec)

end Rows
end Go.Proofs.YtegbadciefljcaaGreat
