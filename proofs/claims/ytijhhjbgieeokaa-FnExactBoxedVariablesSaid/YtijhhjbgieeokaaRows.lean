/-
  NARROWER THAN 'FOR EVERY INPUT', by the rows' own cells (each row's printed sentence says how): FnExactDepthOfCore: loops · FnExactSizeOfCore: loops · FnExactEqualCores: loops · FnExactBoundVariables: loops · FnExactFreeVariables: loops · FnExactBoxedVariables: loops.
  DERIVED. THE GIVEN ROWS OF THIS SEAT. 12 by the template 'for every input the law returns true; each argument reads behind the call as it read before'; 0 by the template 'total and deterministic' (their statements: YtijhhjbgieeokaaTotals.lean).
  GIVEN WITH THE SEED: the statements are not yours to turn. If you find one false, say at which input.
  Laid BY PROGRAM, IN A SANDBOX (cutbox-rows.mjs): the forced cells as the released guide's own fill.sh prints them over the translation 295525ff1c1cba87… (all of the seat's roots in one cut). By AI agents, Wed Nov 11 2026. No macro, syntax, notation, axiom, sorry.
-/
import Derived.Test.YtijhhjbgieeokaaChecked
import GoSem.Claim
import GoSem.ClaimJoined
import GoSem.ClaimMapViews
import Derived.JoinedTies
import Derived.KernelRfl
namespace Go.Proofs.Ytijhhjbgieeokaa
/- THE CELL 'sum', in the pinned program and in every row, IS THE sha256 OF THE DUMP (.gsa) THAT YtijhhjbgieeokaaProg.lean LOADS. Nothing in Lean hashes anything: it is a label: what it is worth is what the hold of that sum in a sandbox is worth. -/
noncomputable def Try.pinned : Pinned := { name := "ytijhhjbgieeokaa", sum := "295525ff1c1cba87532dc256ff99291bd8f6eb26e7b782281d03193e7d45f61c", checked := Try.checked }
namespace Rows
def none {H : Type} : Left H := { results := [], args := [] }

/-- 'laws.FnExactCodeText': WHATEVER THE INPUT: true; the input reads as it did. -/
def fnExactCodeTextSpec : ChangeSpec := { name := "fnExactCodeText", fn := fun _ => fun
  | [d] => { results := [.lit (.bool true)], args := [d] }
  | _ => none }
def fnExactCodeTextRow : OpenClaim := { program := "ytijhhjbgieeokaa", sum := "295525ff1c1cba87532dc256ff99291bd8f6eb26e7b782281d03193e7d45f61c", func := "loop.example/g03220/laws.FnExactCodeText", spec := "fnExactCodeText", apart := false }
def FnExactCodeTextSaid : Prop := fnExactCodeTextRow.holds Try.pinned (OpenSpec.ofChange fnExactCodeTextSpec)

/-- ITS FALSE NEIGHBOUR: 'it returns false'. Refute it at one input. -/
def fnExactCodeTextWrong : ChangeSpec := { name := "fnExactCodeText", fn := fun _ => fun
  | [d] => { results := [.lit (.bool false)], args := [d] }
  | _ => none }
def FnExactCodeTextWrongFalsely : Prop := fnExactCodeTextRow.holds Try.pinned (OpenSpec.ofChange fnExactCodeTextWrong)

/-- 'laws.FnExactArityOf': WHATEVER THE INPUT: true; the input reads as it did. -/
def fnExactArityOfSpec : ChangeSpec := { name := "fnExactArityOf", fn := fun _ => fun
  | [d] => { results := [.lit (.bool true)], args := [d] }
  | _ => none }
def fnExactArityOfRow : OpenClaim := { program := "ytijhhjbgieeokaa", sum := "295525ff1c1cba87532dc256ff99291bd8f6eb26e7b782281d03193e7d45f61c", func := "loop.example/g03220/laws.FnExactArityOf", spec := "fnExactArityOf", apart := false }
def FnExactArityOfSaid : Prop := fnExactArityOfRow.holds Try.pinned (OpenSpec.ofChange fnExactArityOfSpec)

/-- ITS FALSE NEIGHBOUR: 'it returns false'. Refute it at one input. -/
def fnExactArityOfWrong : ChangeSpec := { name := "fnExactArityOf", fn := fun _ => fun
  | [d] => { results := [.lit (.bool false)], args := [d] }
  | _ => none }
def FnExactArityOfWrongFalsely : Prop := fnExactArityOfRow.holds Try.pinned (OpenSpec.ofChange fnExactArityOfWrong)

/-- 'laws.FnExactProblemText': WHATEVER THE INPUT: true; the input reads as it did. -/
def fnExactProblemTextSpec : ChangeSpec := { name := "fnExactProblemText", fn := fun _ => fun
  | [d] => { results := [.lit (.bool true)], args := [d] }
  | _ => none }
def fnExactProblemTextRow : OpenClaim := { program := "ytijhhjbgieeokaa", sum := "295525ff1c1cba87532dc256ff99291bd8f6eb26e7b782281d03193e7d45f61c", func := "loop.example/g03220/laws.FnExactProblemText", spec := "fnExactProblemText", apart := false }
def FnExactProblemTextSaid : Prop := fnExactProblemTextRow.holds Try.pinned (OpenSpec.ofChange fnExactProblemTextSpec)

/-- ITS FALSE NEIGHBOUR: 'it returns false'. Refute it at one input. -/
def fnExactProblemTextWrong : ChangeSpec := { name := "fnExactProblemText", fn := fun _ => fun
  | [d] => { results := [.lit (.bool false)], args := [d] }
  | _ => none }
def FnExactProblemTextWrongFalsely : Prop := fnExactProblemTextRow.holds Try.pinned (OpenSpec.ofChange fnExactProblemTextWrong)

/-- 'laws.FnExactBaseSource': WHATEVER THE INPUT: true; the input reads as it did. -/
def fnExactBaseSourceSpec : ChangeSpec := { name := "fnExactBaseSource", fn := fun _ => fun
  | [] => { results := [.lit (.bool true)], args := [] }
  | _ => none }
def fnExactBaseSourceRow : OpenClaim := { program := "ytijhhjbgieeokaa", sum := "295525ff1c1cba87532dc256ff99291bd8f6eb26e7b782281d03193e7d45f61c", func := "loop.example/g03220/laws.FnExactBaseSource", spec := "fnExactBaseSource", inPlace := ["internal/abi.NoEscape", "internal/bytealg.MakeNoZero"], apart := false }
def FnExactBaseSourceSaid : Prop := fnExactBaseSourceRow.holds Try.pinned (OpenSpec.ofChange fnExactBaseSourceSpec)

/-- ITS FALSE NEIGHBOUR: 'it returns false'. Refute it at one input. -/
def fnExactBaseSourceWrong : ChangeSpec := { name := "fnExactBaseSource", fn := fun _ => fun
  | [] => { results := [.lit (.bool false)], args := [] }
  | _ => none }
def FnExactBaseSourceWrongFalsely : Prop := fnExactBaseSourceRow.holds Try.pinned (OpenSpec.ofChange fnExactBaseSourceWrong)

/-- 'laws.FnExactEqualOutcomes': WHATEVER THE INPUT: true; the input reads as it did. -/
def fnExactEqualOutcomesSpec : ChangeSpec := { name := "fnExactEqualOutcomes", fn := fun _ => fun
  | [d1, d2] => { results := [.lit (.bool true)], args := [d1, d2] }
  | _ => none }
def fnExactEqualOutcomesRow : OpenClaim := { program := "ytijhhjbgieeokaa", sum := "295525ff1c1cba87532dc256ff99291bd8f6eb26e7b782281d03193e7d45f61c", func := "loop.example/g03220/laws.FnExactEqualOutcomes", spec := "fnExactEqualOutcomes", apart := false }
def FnExactEqualOutcomesSaid : Prop := fnExactEqualOutcomesRow.holds Try.pinned (OpenSpec.ofChange fnExactEqualOutcomesSpec)

/-- ITS FALSE NEIGHBOUR: 'it returns false'. Refute it at one input. -/
def fnExactEqualOutcomesWrong : ChangeSpec := { name := "fnExactEqualOutcomes", fn := fun _ => fun
  | [d1, d2] => { results := [.lit (.bool false)], args := [d1, d2] }
  | _ => none }
def FnExactEqualOutcomesWrongFalsely : Prop := fnExactEqualOutcomesRow.holds Try.pinned (OpenSpec.ofChange fnExactEqualOutcomesWrong)

/-- 'laws.FnExactFormatOutcome': WHATEVER THE INPUT: true; the input reads as it did. -/
def fnExactFormatOutcomeSpec : ChangeSpec := { name := "fnExactFormatOutcome", fn := fun _ => fun
  | [d] => { results := [.lit (.bool true)], args := [d] }
  | _ => none }
def fnExactFormatOutcomeRow : OpenClaim := { program := "ytijhhjbgieeokaa", sum := "295525ff1c1cba87532dc256ff99291bd8f6eb26e7b782281d03193e7d45f61c", func := "loop.example/g03220/laws.FnExactFormatOutcome", spec := "fnExactFormatOutcome", apart := false }
def FnExactFormatOutcomeSaid : Prop := fnExactFormatOutcomeRow.holds Try.pinned (OpenSpec.ofChange fnExactFormatOutcomeSpec)

/-- ITS FALSE NEIGHBOUR: 'it returns false'. Refute it at one input. -/
def fnExactFormatOutcomeWrong : ChangeSpec := { name := "fnExactFormatOutcome", fn := fun _ => fun
  | [d] => { results := [.lit (.bool false)], args := [d] }
  | _ => none }
def FnExactFormatOutcomeWrongFalsely : Prop := fnExactFormatOutcomeRow.holds Try.pinned (OpenSpec.ofChange fnExactFormatOutcomeWrong)

/-- 'laws.FnExactDepthOfCore': WHATEVER THE INPUT: true; the input reads as it did. -/
def fnExactDepthOfCoreSpec : ChangeSpec := { name := "fnExactDepthOfCore", fn := fun _ => fun
  | [d] => { results := [.lit (.bool true)], args := [d] }
  | _ => none }
def fnExactDepthOfCoreRow : OpenClaim := { program := "ytijhhjbgieeokaa", sum := "295525ff1c1cba87532dc256ff99291bd8f6eb26e7b782281d03193e7d45f61c", func := "loop.example/g03220/laws.FnExactDepthOfCore", spec := "fnExactDepthOfCore", recurses := true, loops := true, apart := false }
def FnExactDepthOfCoreSaid : Prop := fnExactDepthOfCoreRow.holds Try.pinned (OpenSpec.ofChange fnExactDepthOfCoreSpec)

/-- ITS FALSE NEIGHBOUR: 'it returns false'. Refute it at one input. -/
def fnExactDepthOfCoreWrong : ChangeSpec := { name := "fnExactDepthOfCore", fn := fun _ => fun
  | [d] => { results := [.lit (.bool false)], args := [d] }
  | _ => none }
def FnExactDepthOfCoreWrongFalsely : Prop := fnExactDepthOfCoreRow.holds Try.pinned (OpenSpec.ofChange fnExactDepthOfCoreWrong)

/-- 'laws.FnExactSizeOfCore': WHATEVER THE INPUT: true; the input reads as it did. -/
def fnExactSizeOfCoreSpec : ChangeSpec := { name := "fnExactSizeOfCore", fn := fun _ => fun
  | [d] => { results := [.lit (.bool true)], args := [d] }
  | _ => none }
def fnExactSizeOfCoreRow : OpenClaim := { program := "ytijhhjbgieeokaa", sum := "295525ff1c1cba87532dc256ff99291bd8f6eb26e7b782281d03193e7d45f61c", func := "loop.example/g03220/laws.FnExactSizeOfCore", spec := "fnExactSizeOfCore", recurses := true, loops := true, apart := false }
def FnExactSizeOfCoreSaid : Prop := fnExactSizeOfCoreRow.holds Try.pinned (OpenSpec.ofChange fnExactSizeOfCoreSpec)

/-- ITS FALSE NEIGHBOUR: 'it returns false'. Refute it at one input. -/
def fnExactSizeOfCoreWrong : ChangeSpec := { name := "fnExactSizeOfCore", fn := fun _ => fun
  | [d] => { results := [.lit (.bool false)], args := [d] }
  | _ => none }
def FnExactSizeOfCoreWrongFalsely : Prop := fnExactSizeOfCoreRow.holds Try.pinned (OpenSpec.ofChange fnExactSizeOfCoreWrong)

/-- 'laws.FnExactEqualCores': WHATEVER THE INPUT: true; the input reads as it did. -/
def fnExactEqualCoresSpec : ChangeSpec := { name := "fnExactEqualCores", fn := fun _ => fun
  | [d1, d2] => { results := [.lit (.bool true)], args := [d1, d2] }
  | _ => none }
def fnExactEqualCoresRow : OpenClaim := { program := "ytijhhjbgieeokaa", sum := "295525ff1c1cba87532dc256ff99291bd8f6eb26e7b782281d03193e7d45f61c", func := "loop.example/g03220/laws.FnExactEqualCores", spec := "fnExactEqualCores", recurses := true, loops := true, apart := false }
def FnExactEqualCoresSaid : Prop := fnExactEqualCoresRow.holds Try.pinned (OpenSpec.ofChange fnExactEqualCoresSpec)

/-- ITS FALSE NEIGHBOUR: 'it returns false'. Refute it at one input. -/
def fnExactEqualCoresWrong : ChangeSpec := { name := "fnExactEqualCores", fn := fun _ => fun
  | [d1, d2] => { results := [.lit (.bool false)], args := [d1, d2] }
  | _ => none }
def FnExactEqualCoresWrongFalsely : Prop := fnExactEqualCoresRow.holds Try.pinned (OpenSpec.ofChange fnExactEqualCoresWrong)

/-- 'laws.FnExactBoundVariables': WHATEVER THE INPUT: true; the input reads as it did. -/
def fnExactBoundVariablesSpec : ChangeSpec := { name := "fnExactBoundVariables", fn := fun _ => fun
  | [d] => { results := [.lit (.bool true)], args := [d] }
  | _ => none }
def fnExactBoundVariablesRow : OpenClaim := { program := "ytijhhjbgieeokaa", sum := "295525ff1c1cba87532dc256ff99291bd8f6eb26e7b782281d03193e7d45f61c", func := "loop.example/g03220/laws.FnExactBoundVariables", spec := "fnExactBoundVariables", recurses := true, loops := true, apart := false }
def FnExactBoundVariablesSaid : Prop := fnExactBoundVariablesRow.holds Try.pinned (OpenSpec.ofChange fnExactBoundVariablesSpec)

/-- ITS FALSE NEIGHBOUR: 'it returns false'. Refute it at one input. -/
def fnExactBoundVariablesWrong : ChangeSpec := { name := "fnExactBoundVariables", fn := fun _ => fun
  | [d] => { results := [.lit (.bool false)], args := [d] }
  | _ => none }
def FnExactBoundVariablesWrongFalsely : Prop := fnExactBoundVariablesRow.holds Try.pinned (OpenSpec.ofChange fnExactBoundVariablesWrong)

/-- 'laws.FnExactFreeVariables': WHATEVER THE INPUT: true; the input reads as it did. -/
def fnExactFreeVariablesSpec : ChangeSpec := { name := "fnExactFreeVariables", fn := fun _ => fun
  | [d] => { results := [.lit (.bool true)], args := [d] }
  | _ => none }
def fnExactFreeVariablesRow : OpenClaim := { program := "ytijhhjbgieeokaa", sum := "295525ff1c1cba87532dc256ff99291bd8f6eb26e7b782281d03193e7d45f61c", func := "loop.example/g03220/laws.FnExactFreeVariables", spec := "fnExactFreeVariables", recurses := true, loops := true, apart := false }
def FnExactFreeVariablesSaid : Prop := fnExactFreeVariablesRow.holds Try.pinned (OpenSpec.ofChange fnExactFreeVariablesSpec)

/-- ITS FALSE NEIGHBOUR: 'it returns false'. Refute it at one input. -/
def fnExactFreeVariablesWrong : ChangeSpec := { name := "fnExactFreeVariables", fn := fun _ => fun
  | [d] => { results := [.lit (.bool false)], args := [d] }
  | _ => none }
def FnExactFreeVariablesWrongFalsely : Prop := fnExactFreeVariablesRow.holds Try.pinned (OpenSpec.ofChange fnExactFreeVariablesWrong)

/-- 'laws.FnExactBoxedVariables': WHATEVER THE INPUT: true; the input reads as it did. -/
def fnExactBoxedVariablesSpec : ChangeSpec := { name := "fnExactBoxedVariables", fn := fun _ => fun
  | [d] => { results := [.lit (.bool true)], args := [d] }
  | _ => none }
def fnExactBoxedVariablesRow : OpenClaim := { program := "ytijhhjbgieeokaa", sum := "295525ff1c1cba87532dc256ff99291bd8f6eb26e7b782281d03193e7d45f61c", func := "loop.example/g03220/laws.FnExactBoxedVariables", spec := "fnExactBoxedVariables", recurses := true, loops := true, apart := false }
def FnExactBoxedVariablesSaid : Prop := fnExactBoxedVariablesRow.holds Try.pinned (OpenSpec.ofChange fnExactBoxedVariablesSpec)

/-- ITS FALSE NEIGHBOUR: 'it returns false'. Refute it at one input. -/
def fnExactBoxedVariablesWrong : ChangeSpec := { name := "fnExactBoxedVariables", fn := fun _ => fun
  | [d] => { results := [.lit (.bool false)], args := [d] }
  | _ => none }
def FnExactBoxedVariablesWrongFalsely : Prop := fnExactBoxedVariablesRow.holds Try.pinned (OpenSpec.ofChange fnExactBoxedVariablesWrong)

/- THE SECOND FORM. 'bulk': how many values and letters a reading holds, each counted each time it is reached (what is shared counts as often as it is met; a slice's spare places count too). A statement '..UptoSaid' is the law's where the arguments, and the package variables that the reading takes, are together of bulk at most 1048576: NARROWER than '..Said'. Prove '..Said' where nothing that the law and all that it calls make is longer than what came in: it says more and counts as full. Else prove '..UptoSaid'. A law counts once. -/
mutual
def uptoBulk {H : Type} : DataW H → Nat
  | .lit (.string bytes) => bytes.length + 1
  | .lit _ => 1
  | .nil => 1
  | .ptr d => uptoBulk d + 1
  | .slice elems spare => uptoBulkAll elems + uptoBulkAll spare + 1
  | .agg parts => uptoBulkAll parts + 1
  | .iface _ d => uptoBulk d + 1
  | .map entries => uptoBulkEntries entries + 1
  | .held _ => 1
def uptoBulkAll {H : Type} : List (DataW H) → Nat
  | [] => 0
  | d :: r => uptoBulk d + uptoBulkAll r
def uptoBulkEntries {H : Type} : List (Lit × DataW H) → Nat
  | [] => 0
  | x :: r => uptoBulkEntry x + uptoBulkEntries r
def uptoBulkEntry {H : Type} : Lit × DataW H → Nat
  | (.string bytes, d) => bytes.length + uptoBulk d + 1
  | (_, d) => uptoBulk d + 1
 end
def uptoSmall : (H : Type) → List (DataW H) → Bool := fun _ ds => decide (uptoBulkAll ds ≤ 1048576)
def OpenSpec.upto (s : _root_.Go.ChangeSpec) : _root_.Go.OpenSpec := { _root_.Go.OpenSpec.ofChange s with cond := some uptoSmall }

/-- 'laws.FnExactCodeText', WHERE WHAT IT READS IS OF BULK AT MOST 1048576: true; the input reads as it did. -/
def fnExactCodeTextUptoRow : OpenClaim := { program := "ytijhhjbgieeokaa", sum := "295525ff1c1cba87532dc256ff99291bd8f6eb26e7b782281d03193e7d45f61c", func := "loop.example/g03220/laws.FnExactCodeText", spec := "fnExactCodeText", apart := false, narrowed := true }
def FnExactCodeTextUptoSaid : Prop := fnExactCodeTextUptoRow.holds Try.pinned (OpenSpec.upto fnExactCodeTextSpec)

/-- 'laws.FnExactArityOf', WHERE WHAT IT READS IS OF BULK AT MOST 1048576: true; the input reads as it did. -/
def fnExactArityOfUptoRow : OpenClaim := { program := "ytijhhjbgieeokaa", sum := "295525ff1c1cba87532dc256ff99291bd8f6eb26e7b782281d03193e7d45f61c", func := "loop.example/g03220/laws.FnExactArityOf", spec := "fnExactArityOf", apart := false, narrowed := true }
def FnExactArityOfUptoSaid : Prop := fnExactArityOfUptoRow.holds Try.pinned (OpenSpec.upto fnExactArityOfSpec)

/-- 'laws.FnExactProblemText', WHERE WHAT IT READS IS OF BULK AT MOST 1048576: true; the input reads as it did. -/
def fnExactProblemTextUptoRow : OpenClaim := { program := "ytijhhjbgieeokaa", sum := "295525ff1c1cba87532dc256ff99291bd8f6eb26e7b782281d03193e7d45f61c", func := "loop.example/g03220/laws.FnExactProblemText", spec := "fnExactProblemText", apart := false, narrowed := true }
def FnExactProblemTextUptoSaid : Prop := fnExactProblemTextUptoRow.holds Try.pinned (OpenSpec.upto fnExactProblemTextSpec)

/-- 'laws.FnExactBaseSource', WHERE WHAT IT READS IS OF BULK AT MOST 1048576: true; the input reads as it did. -/
def fnExactBaseSourceUptoRow : OpenClaim := { program := "ytijhhjbgieeokaa", sum := "295525ff1c1cba87532dc256ff99291bd8f6eb26e7b782281d03193e7d45f61c", func := "loop.example/g03220/laws.FnExactBaseSource", spec := "fnExactBaseSource", inPlace := ["internal/abi.NoEscape", "internal/bytealg.MakeNoZero"], apart := false, narrowed := true }
def FnExactBaseSourceUptoSaid : Prop := fnExactBaseSourceUptoRow.holds Try.pinned (OpenSpec.upto fnExactBaseSourceSpec)

/-- 'laws.FnExactEqualOutcomes', WHERE WHAT IT READS IS OF BULK AT MOST 1048576: true; the input reads as it did. -/
def fnExactEqualOutcomesUptoRow : OpenClaim := { program := "ytijhhjbgieeokaa", sum := "295525ff1c1cba87532dc256ff99291bd8f6eb26e7b782281d03193e7d45f61c", func := "loop.example/g03220/laws.FnExactEqualOutcomes", spec := "fnExactEqualOutcomes", apart := false, narrowed := true }
def FnExactEqualOutcomesUptoSaid : Prop := fnExactEqualOutcomesUptoRow.holds Try.pinned (OpenSpec.upto fnExactEqualOutcomesSpec)

/-- 'laws.FnExactFormatOutcome', WHERE WHAT IT READS IS OF BULK AT MOST 1048576: true; the input reads as it did. -/
def fnExactFormatOutcomeUptoRow : OpenClaim := { program := "ytijhhjbgieeokaa", sum := "295525ff1c1cba87532dc256ff99291bd8f6eb26e7b782281d03193e7d45f61c", func := "loop.example/g03220/laws.FnExactFormatOutcome", spec := "fnExactFormatOutcome", apart := false, narrowed := true }
def FnExactFormatOutcomeUptoSaid : Prop := fnExactFormatOutcomeUptoRow.holds Try.pinned (OpenSpec.upto fnExactFormatOutcomeSpec)

/-- 'laws.FnExactDepthOfCore', WHERE WHAT IT READS IS OF BULK AT MOST 1048576: true; the input reads as it did. -/
def fnExactDepthOfCoreUptoRow : OpenClaim := { program := "ytijhhjbgieeokaa", sum := "295525ff1c1cba87532dc256ff99291bd8f6eb26e7b782281d03193e7d45f61c", func := "loop.example/g03220/laws.FnExactDepthOfCore", spec := "fnExactDepthOfCore", recurses := true, loops := true, apart := false, narrowed := true }
def FnExactDepthOfCoreUptoSaid : Prop := fnExactDepthOfCoreUptoRow.holds Try.pinned (OpenSpec.upto fnExactDepthOfCoreSpec)

/-- 'laws.FnExactSizeOfCore', WHERE WHAT IT READS IS OF BULK AT MOST 1048576: true; the input reads as it did. -/
def fnExactSizeOfCoreUptoRow : OpenClaim := { program := "ytijhhjbgieeokaa", sum := "295525ff1c1cba87532dc256ff99291bd8f6eb26e7b782281d03193e7d45f61c", func := "loop.example/g03220/laws.FnExactSizeOfCore", spec := "fnExactSizeOfCore", recurses := true, loops := true, apart := false, narrowed := true }
def FnExactSizeOfCoreUptoSaid : Prop := fnExactSizeOfCoreUptoRow.holds Try.pinned (OpenSpec.upto fnExactSizeOfCoreSpec)

/-- 'laws.FnExactEqualCores', WHERE WHAT IT READS IS OF BULK AT MOST 1048576: true; the input reads as it did. -/
def fnExactEqualCoresUptoRow : OpenClaim := { program := "ytijhhjbgieeokaa", sum := "295525ff1c1cba87532dc256ff99291bd8f6eb26e7b782281d03193e7d45f61c", func := "loop.example/g03220/laws.FnExactEqualCores", spec := "fnExactEqualCores", recurses := true, loops := true, apart := false, narrowed := true }
def FnExactEqualCoresUptoSaid : Prop := fnExactEqualCoresUptoRow.holds Try.pinned (OpenSpec.upto fnExactEqualCoresSpec)

/-- 'laws.FnExactBoundVariables', WHERE WHAT IT READS IS OF BULK AT MOST 1048576: true; the input reads as it did. -/
def fnExactBoundVariablesUptoRow : OpenClaim := { program := "ytijhhjbgieeokaa", sum := "295525ff1c1cba87532dc256ff99291bd8f6eb26e7b782281d03193e7d45f61c", func := "loop.example/g03220/laws.FnExactBoundVariables", spec := "fnExactBoundVariables", recurses := true, loops := true, apart := false, narrowed := true }
def FnExactBoundVariablesUptoSaid : Prop := fnExactBoundVariablesUptoRow.holds Try.pinned (OpenSpec.upto fnExactBoundVariablesSpec)

/-- 'laws.FnExactFreeVariables', WHERE WHAT IT READS IS OF BULK AT MOST 1048576: true; the input reads as it did. -/
def fnExactFreeVariablesUptoRow : OpenClaim := { program := "ytijhhjbgieeokaa", sum := "295525ff1c1cba87532dc256ff99291bd8f6eb26e7b782281d03193e7d45f61c", func := "loop.example/g03220/laws.FnExactFreeVariables", spec := "fnExactFreeVariables", recurses := true, loops := true, apart := false, narrowed := true }
def FnExactFreeVariablesUptoSaid : Prop := fnExactFreeVariablesUptoRow.holds Try.pinned (OpenSpec.upto fnExactFreeVariablesSpec)

/-- 'laws.FnExactBoxedVariables', WHERE WHAT IT READS IS OF BULK AT MOST 1048576: true; the input reads as it did. -/
def fnExactBoxedVariablesUptoRow : OpenClaim := { program := "ytijhhjbgieeokaa", sum := "295525ff1c1cba87532dc256ff99291bd8f6eb26e7b782281d03193e7d45f61c", func := "loop.example/g03220/laws.FnExactBoxedVariables", spec := "fnExactBoxedVariables", recurses := true, loops := true, apart := false, narrowed := true }
def FnExactBoxedVariablesUptoSaid : Prop := fnExactBoxedVariablesUptoRow.holds Try.pinned (OpenSpec.upto fnExactBoxedVariablesSpec)

end Rows
end Go.Proofs.Ytijhhjbgieeokaa
