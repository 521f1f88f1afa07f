/-
  NARROWER THAN 'FOR EVERY INPUT', by the rows' own cells (each row's printed sentence says how): FnExactBindMacro: loops · FnExactProgramOf: loops · FnExactMatchPattern: loops · FnExactApplyRules: loops · FnExactExpandStep: loops · FnExactTraceForm: loops · FnExactExpandBody: loops · FnExactExpandExpression: loops.
  DERIVED. THE GIVEN ROWS OF THIS SEAT. 8 by the template 'for every input the law returns true; each argument reads behind the call as it read before'; 0 by the template 'total and deterministic' (their statements: YtpnaoendfpaodaaGreatTotals.lean).
  GIVEN WITH THE SEED: the statements are not yours to turn. If you find one false, say at which input.
  Laid BY PROGRAM, IN A SANDBOX (cutbox-rows.mjs): the forced cells as the released guide's own fill.sh prints them over the translation fee15505c6afb38a… (all of the seat's roots in one cut). By AI agents, Wed Nov 11 2026. No macro, syntax, notation, axiom, sorry.
-/
import Derived.Test.YtpnaoendfpaodaaGreatChecked
import GoSem.Claim
import GoSem.ClaimJoined
import GoSem.ClaimMapViews
import Derived.JoinedTies
import Derived.KernelRfl
namespace Go.Proofs.YtpnaoendfpaodaaGreat
/- THE CELL 'sum', in the pinned program and in every row, IS THE sha256 OF THE DUMP (.gsa) THAT YtpnaoendfpaodaaGreatProg.lean LOADS. Nothing in Lean hashes anything: it is a label: what it is worth is what the hold of that sum in a sandbox is worth. -/
noncomputable def Tryz.pinned : Pinned := { name := "ytpnaoendfpaodaagreat", sum := "fee15505c6afb38a08a48e6659cd36fa34786e6fa3dff4417e89236ab6540de5", checked := Tryz.checked }
namespace Rows
def none {H : Type} : Left H := { results := [], args := [] }

/-- 'laws.FnExactBindMacro': WHATEVER THE INPUT: true; the input reads as it did. -/
def fnExactBindMacroSpec : ChangeSpec := { name := "fnExactBindMacro", fn := fun _ => fun
  | [d1, d2, d3] => { results := [.lit (.bool true)], args := [d1, d2, d3] }
  | _ => none }
def fnExactBindMacroRow : OpenClaim := { program := "ytpnaoendfpaodaagreat", sum := "fee15505c6afb38a08a48e6659cd36fa34786e6fa3dff4417e89236ab6540de5", func := "loop.example/g03220/laws.FnExactBindMacro", spec := "fnExactBindMacro", unfollowed := true, recurses := true, loops := true, apart := false }
def FnExactBindMacroSaid : Prop := fnExactBindMacroRow.holds Tryz.pinned (OpenSpec.ofChange fnExactBindMacroSpec)

/-- ITS FALSE NEIGHBOUR: 'it returns false'. Refute it at one input. -/
def fnExactBindMacroWrong : ChangeSpec := { name := "fnExactBindMacro", fn := fun _ => fun
  | [d1, d2, d3] => { results := [.lit (.bool false)], args := [d1, d2, d3] }
  | _ => none }
def FnExactBindMacroWrongFalsely : Prop := fnExactBindMacroRow.holds Tryz.pinned (OpenSpec.ofChange fnExactBindMacroWrong)

/-- 'laws.FnExactProgramOf': WHATEVER THE INPUT: true; the input reads as it did. -/
def fnExactProgramOfSpec : ChangeSpec := { name := "fnExactProgramOf", fn := fun _ => fun
  | [d] => { results := [.lit (.bool true)], args := [d] }
  | _ => none }
def fnExactProgramOfRow : OpenClaim := { program := "ytpnaoendfpaodaagreat", sum := "fee15505c6afb38a08a48e6659cd36fa34786e6fa3dff4417e89236ab6540de5", func := "loop.example/g03220/laws.FnExactProgramOf", spec := "fnExactProgramOf", recurses := true, loops := true, apart := false }
def FnExactProgramOfSaid : Prop := fnExactProgramOfRow.holds Tryz.pinned (OpenSpec.ofChange fnExactProgramOfSpec)

/-- ITS FALSE NEIGHBOUR: 'it returns false'. Refute it at one input. -/
def fnExactProgramOfWrong : ChangeSpec := { name := "fnExactProgramOf", fn := fun _ => fun
  | [d] => { results := [.lit (.bool false)], args := [d] }
  | _ => none }
def FnExactProgramOfWrongFalsely : Prop := fnExactProgramOfRow.holds Tryz.pinned (OpenSpec.ofChange fnExactProgramOfWrong)

/-- 'laws.FnExactMatchPattern': WHATEVER THE INPUT: true; the input reads as it did. -/
def fnExactMatchPatternSpec : ChangeSpec := { name := "fnExactMatchPattern", fn := fun _ => fun
  | [d1, d2, d3, d4] => { results := [.lit (.bool true)], args := [d1, d2, d3, d4] }
  | _ => none }
def fnExactMatchPatternRow : OpenClaim := { program := "ytpnaoendfpaodaagreat", sum := "fee15505c6afb38a08a48e6659cd36fa34786e6fa3dff4417e89236ab6540de5", func := "loop.example/g03220/laws.FnExactMatchPattern", spec := "fnExactMatchPattern", unfollowed := true, recurses := true, loops := true, apart := false }
def FnExactMatchPatternSaid : Prop := fnExactMatchPatternRow.holds Tryz.pinned (OpenSpec.ofChange fnExactMatchPatternSpec)

/-- ITS FALSE NEIGHBOUR: 'it returns false'. Refute it at one input. -/
def fnExactMatchPatternWrong : ChangeSpec := { name := "fnExactMatchPattern", fn := fun _ => fun
  | [d1, d2, d3, d4] => { results := [.lit (.bool false)], args := [d1, d2, d3, d4] }
  | _ => none }
def FnExactMatchPatternWrongFalsely : Prop := fnExactMatchPatternRow.holds Tryz.pinned (OpenSpec.ofChange fnExactMatchPatternWrong)

/-- 'laws.FnExactApplyRules': WHATEVER THE INPUT: true; the input reads as it did. -/
def fnExactApplyRulesSpec : ChangeSpec := { name := "fnExactApplyRules", fn := fun _ => fun
  | [d1, d2, d3] => { results := [.lit (.bool true)], args := [d1, d2, d3] }
  | _ => none }
def fnExactApplyRulesRow : OpenClaim := { program := "ytpnaoendfpaodaagreat", sum := "fee15505c6afb38a08a48e6659cd36fa34786e6fa3dff4417e89236ab6540de5", func := "loop.example/g03220/laws.FnExactApplyRules", spec := "fnExactApplyRules", unfollowed := true, recurses := true, loops := true, apart := false }
def FnExactApplyRulesSaid : Prop := fnExactApplyRulesRow.holds Tryz.pinned (OpenSpec.ofChange fnExactApplyRulesSpec)

/-- ITS FALSE NEIGHBOUR: 'it returns false'. Refute it at one input. -/
def fnExactApplyRulesWrong : ChangeSpec := { name := "fnExactApplyRules", fn := fun _ => fun
  | [d1, d2, d3] => { results := [.lit (.bool false)], args := [d1, d2, d3] }
  | _ => none }
def FnExactApplyRulesWrongFalsely : Prop := fnExactApplyRulesRow.holds Tryz.pinned (OpenSpec.ofChange fnExactApplyRulesWrong)

/-- 'laws.FnExactExpandStep': WHATEVER THE INPUT: true; the input reads as it did. -/
def fnExactExpandStepSpec : ChangeSpec := { name := "fnExactExpandStep", fn := fun _ => fun
  | [d1, d2] => { results := [.lit (.bool true)], args := [d1, d2] }
  | _ => none }
def fnExactExpandStepRow : OpenClaim := { program := "ytpnaoendfpaodaagreat", sum := "fee15505c6afb38a08a48e6659cd36fa34786e6fa3dff4417e89236ab6540de5", func := "loop.example/g03220/laws.FnExactExpandStep", spec := "fnExactExpandStep", unfollowed := true, recurses := true, loops := true, apart := false }
def FnExactExpandStepSaid : Prop := fnExactExpandStepRow.holds Tryz.pinned (OpenSpec.ofChange fnExactExpandStepSpec)

/-- ITS FALSE NEIGHBOUR: 'it returns false'. Refute it at one input. -/
def fnExactExpandStepWrong : ChangeSpec := { name := "fnExactExpandStep", fn := fun _ => fun
  | [d1, d2] => { results := [.lit (.bool false)], args := [d1, d2] }
  | _ => none }
def FnExactExpandStepWrongFalsely : Prop := fnExactExpandStepRow.holds Tryz.pinned (OpenSpec.ofChange fnExactExpandStepWrong)

/-- 'laws.FnExactTraceForm': WHATEVER THE INPUT: true; the input reads as it did. -/
def fnExactTraceFormSpec : ChangeSpec := { name := "fnExactTraceForm", fn := fun _ => fun
  | [d1, d2] => { results := [.lit (.bool true)], args := [d1, d2] }
  | _ => none }
def fnExactTraceFormRow : OpenClaim := { program := "ytpnaoendfpaodaagreat", sum := "fee15505c6afb38a08a48e6659cd36fa34786e6fa3dff4417e89236ab6540de5", func := "loop.example/g03220/laws.FnExactTraceForm", spec := "fnExactTraceForm", unfollowed := true, recurses := true, loops := true, apart := false }
def FnExactTraceFormSaid : Prop := fnExactTraceFormRow.holds Tryz.pinned (OpenSpec.ofChange fnExactTraceFormSpec)

/-- ITS FALSE NEIGHBOUR: 'it returns false'. Refute it at one input. -/
def fnExactTraceFormWrong : ChangeSpec := { name := "fnExactTraceForm", fn := fun _ => fun
  | [d1, d2] => { results := [.lit (.bool false)], args := [d1, d2] }
  | _ => none }
def FnExactTraceFormWrongFalsely : Prop := fnExactTraceFormRow.holds Tryz.pinned (OpenSpec.ofChange fnExactTraceFormWrong)

/-- 'laws.FnExactExpandBody': WHATEVER THE INPUT: true; the input reads as it did. -/
def fnExactExpandBodySpec : ChangeSpec := { name := "fnExactExpandBody", fn := fun _ => fun
  | [d1, d2] => { results := [.lit (.bool true)], args := [d1, d2] }
  | _ => none }
def fnExactExpandBodyRow : OpenClaim := { program := "ytpnaoendfpaodaagreat", sum := "fee15505c6afb38a08a48e6659cd36fa34786e6fa3dff4417e89236ab6540de5", func := "loop.example/g03220/laws.FnExactExpandBody", spec := "fnExactExpandBody", unfollowed := true, recurses := true, loops := true, apart := false }
def FnExactExpandBodySaid : Prop := fnExactExpandBodyRow.holds Tryz.pinned (OpenSpec.ofChange fnExactExpandBodySpec)

/-- ITS FALSE NEIGHBOUR: 'it returns false'. Refute it at one input. -/
def fnExactExpandBodyWrong : ChangeSpec := { name := "fnExactExpandBody", fn := fun _ => fun
  | [d1, d2] => { results := [.lit (.bool false)], args := [d1, d2] }
  | _ => none }
def FnExactExpandBodyWrongFalsely : Prop := fnExactExpandBodyRow.holds Tryz.pinned (OpenSpec.ofChange fnExactExpandBodyWrong)

/-- 'laws.FnExactExpandExpression': WHATEVER THE INPUT: true; the input reads as it did. -/
def fnExactExpandExpressionSpec : ChangeSpec := { name := "fnExactExpandExpression", fn := fun _ => fun
  | [d1, d2] => { results := [.lit (.bool true)], args := [d1, d2] }
  | _ => none }
def fnExactExpandExpressionRow : OpenClaim := { program := "ytpnaoendfpaodaagreat", sum := "fee15505c6afb38a08a48e6659cd36fa34786e6fa3dff4417e89236ab6540de5", func := "loop.example/g03220/laws.FnExactExpandExpression", spec := "fnExactExpandExpression", unfollowed := true, recurses := true, loops := true, apart := false }
def FnExactExpandExpressionSaid : Prop := fnExactExpandExpressionRow.holds Tryz.pinned (OpenSpec.ofChange fnExactExpandExpressionSpec)

/-- ITS FALSE NEIGHBOUR: 'it returns false'. Refute it at one input. -/
def fnExactExpandExpressionWrong : ChangeSpec := { name := "fnExactExpandExpression", fn := fun _ => fun
  | [d1, d2] => { results := [.lit (.bool false)], args := [d1, d2] }
  | _ => none }
def FnExactExpandExpressionWrongFalsely : Prop := fnExactExpandExpressionRow.holds Tryz.pinned (OpenSpec.ofChange fnExactExpandExpressionWrong)

/- THE SECOND FORM. 'bulk': how many values and letters a reading holds, each counted each time it is reached (what is shared counts as often as it is met; a slice's spare places count too). A statement '..UptoSaid' is the law's where the arguments, and the package variables that the reading takes, are together of bulk at most 1048576: NARROWER than '..Said'. Prove '..Said' where nothing that the law and all that it calls make is longer than what came in: it says more and counts as full. Else prove '..UptoSaid'. A law counts once. -/
mutual
def uptoBulk {H : Type} : DataW H → Nat
  | .lit (.string bytes) => bytes.length + 1
  | .lit _ => 1
  | .nil => 1
  | .ptr d => uptoBulk d + 1
  | .slice elems spare => uptoBulkAll elems + uptoBulkAll spare + 1
  | .agg parts => uptoBulkAll parts + 1
  | .iface _ d => uptoBulk d + 1
  | .map entries => uptoBulkEntries entries + 1
  | .held _ => 1
def uptoBulkAll {H : Type} : List (DataW H) → Nat
  | [] => 0
  | d :: r => uptoBulk d + uptoBulkAll r
def uptoBulkEntries {H : Type} : List (Lit × DataW H) → Nat
  | [] => 0
  | x :: r => uptoBulkEntry x + uptoBulkEntries r
def uptoBulkEntry {H : Type} : Lit × DataW H → Nat
  | (.string bytes, d) => bytes.length + uptoBulk d + 1
  | (_, d) => uptoBulk d + 1
 end
def uptoSmall : (H : Type) → List (DataW H) → Bool := fun _ ds => decide (uptoBulkAll ds ≤ 1048576)
def OpenSpec.upto (s : _root_.Go.ChangeSpec) : _root_.Go.OpenSpec := { _root_.Go.OpenSpec.ofChange s with cond := some uptoSmall }

/-- 'laws.FnExactBindMacro', WHERE WHAT IT READS IS OF BULK AT MOST 1048576: true; the input reads as it did. -/
def fnExactBindMacroUptoRow : OpenClaim := { program := "ytpnaoendfpaodaagreat", sum := "fee15505c6afb38a08a48e6659cd36fa34786e6fa3dff4417e89236ab6540de5", func := "loop.example/g03220/laws.FnExactBindMacro", spec := "fnExactBindMacro", unfollowed := true, recurses := true, loops := true, apart := false, narrowed := true }
def FnExactBindMacroUptoSaid : Prop := fnExactBindMacroUptoRow.holds Tryz.pinned (OpenSpec.upto fnExactBindMacroSpec)

/-- 'laws.FnExactProgramOf', WHERE WHAT IT READS IS OF BULK AT MOST 1048576: true; the input reads as it did. -/
def fnExactProgramOfUptoRow : OpenClaim := { program := "ytpnaoendfpaodaagreat", sum := "fee15505c6afb38a08a48e6659cd36fa34786e6fa3dff4417e89236ab6540de5", func := "loop.example/g03220/laws.FnExactProgramOf", spec := "fnExactProgramOf", recurses := true, loops := true, apart := false, narrowed := true }
def FnExactProgramOfUptoSaid : Prop := fnExactProgramOfUptoRow.holds Tryz.pinned (OpenSpec.upto fnExactProgramOfSpec)

/-- 'laws.FnExactMatchPattern', WHERE WHAT IT READS IS OF BULK AT MOST 1048576: true; the input reads as it did. -/
def fnExactMatchPatternUptoRow : OpenClaim := { program := "ytpnaoendfpaodaagreat", sum := "fee15505c6afb38a08a48e6659cd36fa34786e6fa3dff4417e89236ab6540de5", func := "loop.example/g03220/laws.FnExactMatchPattern", spec := "fnExactMatchPattern", unfollowed := true, recurses := true, loops := true, apart := false, narrowed := true }
def FnExactMatchPatternUptoSaid : Prop := fnExactMatchPatternUptoRow.holds Tryz.pinned (OpenSpec.upto fnExactMatchPatternSpec)

/-- 'laws.FnExactApplyRules', WHERE WHAT IT READS IS OF BULK AT MOST 1048576: true; the input reads as it did. -/
def fnExactApplyRulesUptoRow : OpenClaim := { program := "ytpnaoendfpaodaagreat", sum := "fee15505c6afb38a08a48e6659cd36fa34786e6fa3dff4417e89236ab6540de5", func := "loop.example/g03220/laws.FnExactApplyRules", spec := "fnExactApplyRules", unfollowed := true, recurses := true, loops := true, apart := false, narrowed := true }
def FnExactApplyRulesUptoSaid : Prop := fnExactApplyRulesUptoRow.holds Tryz.pinned (OpenSpec.upto fnExactApplyRulesSpec)

/-- 'laws.FnExactExpandStep', WHERE WHAT IT READS IS OF BULK AT MOST 1048576: true; the input reads as it did. -/
def fnExactExpandStepUptoRow : OpenClaim := { program := "ytpnaoendfpaodaagreat", sum := "fee15505c6afb38a08a48e6659cd36fa34786e6fa3dff4417e89236ab6540de5", func := "loop.example/g03220/laws.FnExactExpandStep", spec := "fnExactExpandStep", unfollowed := true, recurses := true, loops := true, apart := false, narrowed := true }
def FnExactExpandStepUptoSaid : Prop := fnExactExpandStepUptoRow.holds Tryz.pinned (OpenSpec.upto fnExactExpandStepSpec)

/-- 'laws.FnExactTraceForm', WHERE WHAT IT READS IS OF BULK AT MOST 1048576: true; the input reads as it did. -/
def fnExactTraceFormUptoRow : OpenClaim := { program := "ytpnaoendfpaodaagreat", sum := "fee15505c6afb38a08a48e6659cd36fa34786e6fa3dff4417e89236ab6540de5", func := "loop.example/g03220/laws.FnExactTraceForm", spec := "fnExactTraceForm", unfollowed := true, recurses := true, loops := true, apart := false, narrowed := true }
def FnExactTraceFormUptoSaid : Prop := fnExactTraceFormUptoRow.holds Tryz.pinned (OpenSpec.upto fnExactTraceFormSpec)

/-- 'laws.FnExactExpandBody', WHERE WHAT IT READS IS OF BULK AT MOST 1048576: true; the input reads as it did. -/
def fnExactExpandBodyUptoRow : OpenClaim := { program := "ytpnaoendfpaodaagreat", sum := "fee15505c6afb38a08a48e6659cd36fa34786e6fa3dff4417e89236ab6540de5", func := "loop.example/g03220/laws.FnExactExpandBody", spec := "fnExactExpandBody", unfollowed := true, recurses := true, loops := true, apart := false, narrowed := true }
def FnExactExpandBodyUptoSaid : Prop := fnExactExpandBodyUptoRow.holds Tryz.pinned (OpenSpec.upto fnExactExpandBodySpec)

/-- 'laws.FnExactExpandExpression', WHERE WHAT IT READS IS OF BULK AT MOST 1048576: true; the input reads as it did. -/
def fnExactExpandExpressionUptoRow : OpenClaim := { program := "ytpnaoendfpaodaagreat", sum := "fee15505c6afb38a08a48e6659cd36fa34786e6fa3dff4417e89236ab6540de5", func := "loop.example/g03220/laws.FnExactExpandExpression", spec := "fnExactExpandExpression", unfollowed := true, recurses := true, loops := true, apart := false, narrowed := true }
def FnExactExpandExpressionUptoSaid : Prop := fnExactExpandExpressionUptoRow.holds Tryz.pinned (OpenSpec.upto fnExactExpandExpressionSpec)

end Rows
end Go.Proofs.YtpnaoendfpaodaaGreat
