/-
  NARROWER THAN 'FOR EVERY INPUT', by the rows' own cells (each row's printed sentence says how): FnExactInstantiate: loops.
  DERIVED. THE GIVEN ROWS OF THIS SEAT. 3 by the template 'for every input the law returns true; each argument reads behind the call as it read before'; 0 by the template 'total and deterministic' (their statements: YtegbadciefljcaaTotals.lean).
  GIVEN WITH THE SEED: the statements are not yours to turn. If you find one false, say at which input.
  Laid BY PROGRAM, IN A SANDBOX (cutbox-rows.mjs): the forced cells as the released guide's own fill.sh prints them over the translation 96a5105d58505653… (all of the seat's roots in one cut). By AI agents, Wed Nov 11 2026. No macro, syntax, notation, axiom, sorry.
-/
import Derived.Test.YtegbadciefljcaaChecked
import GoSem.Claim
import GoSem.ClaimJoined
import GoSem.ClaimMapViews
import Derived.JoinedTies
import Derived.KernelRfl
namespace Go.Proofs.Ytegbadciefljcaa
/- THE CELL 'sum', in the pinned program and in every row, IS THE sha256 OF THE DUMP (.gsa) THAT YtegbadciefljcaaProg.lean LOADS. Nothing in Lean hashes anything: it is a label: what it is worth is what the hold of that sum in a sandbox is worth. -/
noncomputable def Try.pinned : Pinned := { name := "ytegbadciefljcaa", sum := "96a5105d585056536dc823716d18d76646868f3c6facf4011b7098a65e782ce8", checked := Try.checked }
namespace Rows
def none {H : Type} : Left H := { results := [], args := [] }

/-- 'laws.FnExactBaseSource': WHATEVER THE INPUT: true; the input reads as it did. -/
def fnExactBaseSourceSpec : ChangeSpec := { name := "fnExactBaseSource", fn := fun _ => fun
  | [] => { results := [.lit (.bool true)], args := [] }
  | _ => none }
def fnExactBaseSourceRow : OpenClaim := { program := "ytegbadciefljcaa", sum := "96a5105d585056536dc823716d18d76646868f3c6facf4011b7098a65e782ce8", func := "loop.example/g03220/laws.FnExactBaseSource", spec := "fnExactBaseSource", inPlace := ["internal/abi.NoEscape", "internal/bytealg.MakeNoZero"], apart := false }
def FnExactBaseSourceSaid : Prop := fnExactBaseSourceRow.holds Try.pinned (OpenSpec.ofChange fnExactBaseSourceSpec)

/-- ITS FALSE NEIGHBOUR: 'it returns false'. Refute it at one input. -/
def fnExactBaseSourceWrong : ChangeSpec := { name := "fnExactBaseSource", fn := fun _ => fun
  | [] => { results := [.lit (.bool false)], args := [] }
  | _ => none }
def FnExactBaseSourceWrongFalsely : Prop := fnExactBaseSourceRow.holds Try.pinned (OpenSpec.ofChange fnExactBaseSourceWrong)

/-- 'laws.FnAlpha': WHATEVER THE INPUT: true; the input reads as it did. -/
def fnAlphaSpec : ChangeSpec := { name := "fnAlpha", fn := fun _ => fun
  | [d] => { results := [.lit (.bool true)], args := [d] }
  | _ => none }
def fnAlphaRow : OpenClaim := { program := "ytegbadciefljcaa", sum := "96a5105d585056536dc823716d18d76646868f3c6facf4011b7098a65e782ce8", func := "loop.example/g03220/laws.FnAlpha", spec := "fnAlpha", recurses := true, apart := false }
def FnAlphaSaid : Prop := fnAlphaRow.holds Try.pinned (OpenSpec.ofChange fnAlphaSpec)

/-- ITS FALSE NEIGHBOUR: 'it returns false'. Refute it at one input. -/
def fnAlphaWrong : ChangeSpec := { name := "fnAlpha", fn := fun _ => fun
  | [d] => { results := [.lit (.bool false)], args := [d] }
  | _ => none }
def FnAlphaWrongFalsely : Prop := fnAlphaRow.holds Try.pinned (OpenSpec.ofChange fnAlphaWrong)

/-- 'laws.FnExactInstantiate': WHATEVER THE INPUT: true; the input reads as it did. -/
def fnExactInstantiateSpec : ChangeSpec := { name := "fnExactInstantiate", fn := fun _ => fun
  | [d1, d2] => { results := [.lit (.bool true)], args := [d1, d2] }
  | _ => none }
def fnExactInstantiateRow : OpenClaim := { program := "ytegbadciefljcaa", sum := "96a5105d585056536dc823716d18d76646868f3c6facf4011b7098a65e782ce8", func := "loop.example/g03220/laws.FnExactInstantiate", spec := "fnExactInstantiate", unfollowed := true, recurses := true, loops := true, apart := false }
def FnExactInstantiateSaid : Prop := fnExactInstantiateRow.holds Try.pinned (OpenSpec.ofChange fnExactInstantiateSpec)

/-- ITS FALSE NEIGHBOUR: 'it returns false'. Refute it at one input. -/
def fnExactInstantiateWrong : ChangeSpec := { name := "fnExactInstantiate", fn := fun _ => fun
  | [d1, d2] => { results := [.lit (.bool false)], args := [d1, d2] }
  | _ => none }
def FnExactInstantiateWrongFalsely : Prop := fnExactInstantiateRow.holds Try.pinned (OpenSpec.ofChange fnExactInstantiateWrong)

/- THE SECOND FORM. 'bulk': how many values and letters a reading holds, each counted each time it is reached (what is shared counts as often as it is met; a slice's spare places count too). A statement '..UptoSaid' is the law's where the arguments, and the package variables that the reading takes, are together of bulk at most 1048576: NARROWER than '..Said'. Prove '..Said' where nothing that the law and all that it calls make is longer than what came in: it says more and counts as full. Else prove '..UptoSaid'. A law counts once. -/
mutual
def uptoBulk {H : Type} : DataW H → Nat
  | .lit (.string bytes) => bytes.length + 1
  | .lit _ => 1
  | .nil => 1
  | .ptr d => uptoBulk d + 1
  | .slice elems spare => uptoBulkAll elems + uptoBulkAll spare + 1
  | .agg parts => uptoBulkAll parts + 1
  | .iface _ d => uptoBulk d + 1
  | .map entries => uptoBulkEntries entries + 1
  | .held _ => 1
def uptoBulkAll {H : Type} : List (DataW H) → Nat
  | [] => 0
  | d :: r => uptoBulk d + uptoBulkAll r
def uptoBulkEntries {H : Type} : List (Lit × DataW H) → Nat
  | [] => 0
  | x :: r => uptoBulkEntry x + uptoBulkEntries r
def uptoBulkEntry {H : Type} : Lit × DataW H → Nat
  | (.string bytes, d) => bytes.length + uptoBulk d + 1
  | (_, d) => uptoBulk d + 1
 end
def uptoSmall : (H : Type) → List (DataW H) → Bool := fun _ ds => decide (uptoBulkAll ds ≤ 1048576)
def OpenSpec.upto (s : _root_.Go.ChangeSpec) : _root_.Go.OpenSpec := { _root_.Go.OpenSpec.ofChange s with cond := some uptoSmall }

/-- 'laws.FnExactBaseSource', WHERE WHAT IT READS IS OF BULK AT MOST 1048576: true; the input reads as it did. -/
def fnExactBaseSourceUptoRow : OpenClaim := { program := "ytegbadciefljcaa", sum := "96a5105d585056536dc823716d18d76646868f3c6facf4011b7098a65e782ce8", func := "loop.example/g03220/laws.FnExactBaseSource", spec := "fnExactBaseSource", inPlace := ["internal/abi.NoEscape", "internal/bytealg.MakeNoZero"], apart := false, narrowed := true }
def FnExactBaseSourceUptoSaid : Prop := fnExactBaseSourceUptoRow.holds Try.pinned (OpenSpec.upto fnExactBaseSourceSpec)

/-- 'laws.FnAlpha', WHERE WHAT IT READS IS OF BULK AT MOST 1048576: true; the input reads as it did. -/
def fnAlphaUptoRow : OpenClaim := { program := "ytegbadciefljcaa", sum := "96a5105d585056536dc823716d18d76646868f3c6facf4011b7098a65e782ce8", func := "loop.example/g03220/laws.FnAlpha", spec := "fnAlpha", recurses := true, apart := false, narrowed := true }
def FnAlphaUptoSaid : Prop := fnAlphaUptoRow.holds Try.pinned (OpenSpec.upto fnAlphaSpec)

/-- 'laws.FnExactInstantiate', WHERE WHAT IT READS IS OF BULK AT MOST 1048576: true; the input reads as it did. -/
def fnExactInstantiateUptoRow : OpenClaim := { program := "ytegbadciefljcaa", sum := "96a5105d585056536dc823716d18d76646868f3c6facf4011b7098a65e782ce8", func := "loop.example/g03220/laws.FnExactInstantiate", spec := "fnExactInstantiate", unfollowed := true, recurses := true, loops := true, apart := false, narrowed := true }
def FnExactInstantiateUptoSaid : Prop := fnExactInstantiateUptoRow.holds Try.pinned (OpenSpec.upto fnExactInstantiateSpec)

end Rows
end Go.Proofs.Ytegbadciefljcaa
