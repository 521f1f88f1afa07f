/-
  NARROWER THAN 'FOR EVERY INPUT', by the rows' own cells (each row's printed sentence says how): FnExactIsWorld: loops.
  DERIVED. THE GIVEN ROWS OF THIS SEAT. 3 by the template 'for every input the law returns true; each argument reads behind the call as it read before'; 0 by the template 'total and deterministic' (their statements: YtclpofblehlojaaGreatTotals.lean).
  GIVEN WITH THE SEED: the statements are not yours to turn. If you find one false, say at which input.
  Laid BY PROGRAM, IN A SANDBOX (cutbox-rows.mjs): the forced cells as the released guide's own fill.sh prints them over the translation 1c3b3ebc1a499c68… (all of the seat's roots in one cut). By AI agents, Wed Nov 11 2026. No macro, syntax, notation, axiom, sorry.
-/
import Derived.Test.YtclpofblehlojaaGreatChecked
import GoSem.Claim
import GoSem.ClaimJoined
import GoSem.ClaimMapViews
import Derived.JoinedTies
import Derived.KernelRfl
namespace Go.Proofs.YtclpofblehlojaaGreat
/- THE CELL 'sum', in the pinned program and in every row, IS THE sha256 OF THE DUMP (.gsa) THAT YtclpofblehlojaaGreatProg.lean LOADS. Nothing in Lean hashes anything: it is a label: what it is worth is what the hold of that sum in a sandbox is worth. -/
noncomputable def Tryz.pinned : Pinned := { name := "ytclpofblehlojaagreat", sum := "1c3b3ebc1a499c68b3459c66f2ab70f793591c259d4b405b3cf4516bdf80206f", checked := Tryz.checked }
namespace Rows
def none {H : Type} : Left H := { results := [], args := [] }

/-- 'laws.FnRebuilt': WHATEVER THE INPUT: true; the input reads as it did. -/
def fnRebuiltSpec : ChangeSpec := { name := "fnRebuilt", fn := fun _ => fun
  | [d] => { results := [.lit (.bool true)], args := [d] }
  | _ => none }
def fnRebuiltRow : OpenClaim := { program := "ytclpofblehlojaagreat", sum := "1c3b3ebc1a499c68b3459c66f2ab70f793591c259d4b405b3cf4516bdf80206f", func := "loop.example/g03220/laws.FnRebuilt", spec := "fnRebuilt", unfollowed := true, recurses := true, plainKeys := false, apart := false }
def FnRebuiltSaid : Prop := fnRebuiltRow.holds Tryz.pinned (OpenSpec.ofChange fnRebuiltSpec)

/-- ITS FALSE NEIGHBOUR: 'it returns false'. Refute it at one input. -/
def fnRebuiltWrong : ChangeSpec := { name := "fnRebuilt", fn := fun _ => fun
  | [d] => { results := [.lit (.bool false)], args := [d] }
  | _ => none }
def FnRebuiltWrongFalsely : Prop := fnRebuiltRow.holds Tryz.pinned (OpenSpec.ofChange fnRebuiltWrong)

/-- 'laws.FnIngredients': WHATEVER THE INPUT: true; the input reads as it did. -/
def fnIngredientsSpec : ChangeSpec := { name := "fnIngredients", fn := fun _ => fun
  | [d] => { results := [.lit (.bool true)], args := [d] }
  | _ => none }
def fnIngredientsRow : OpenClaim := { program := "ytclpofblehlojaagreat", sum := "1c3b3ebc1a499c68b3459c66f2ab70f793591c259d4b405b3cf4516bdf80206f", func := "loop.example/g03220/laws.FnIngredients", spec := "fnIngredients", unfollowed := true, recurses := true, plainKeys := false, apart := false }
def FnIngredientsSaid : Prop := fnIngredientsRow.holds Tryz.pinned (OpenSpec.ofChange fnIngredientsSpec)

/-- ITS FALSE NEIGHBOUR: 'it returns false'. Refute it at one input. -/
def fnIngredientsWrong : ChangeSpec := { name := "fnIngredients", fn := fun _ => fun
  | [d] => { results := [.lit (.bool false)], args := [d] }
  | _ => none }
def FnIngredientsWrongFalsely : Prop := fnIngredientsRow.holds Tryz.pinned (OpenSpec.ofChange fnIngredientsWrong)

/-- 'laws.FnExactIsWorld': WHATEVER THE INPUT: true; the input reads as it did. -/
def fnExactIsWorldSpec : ChangeSpec := { name := "fnExactIsWorld", fn := fun _ => fun
  | [d] => { results := [.lit (.bool true)], args := [d] }
  | _ => none }
def fnExactIsWorldRow : OpenClaim := { program := "ytclpofblehlojaagreat", sum := "1c3b3ebc1a499c68b3459c66f2ab70f793591c259d4b405b3cf4516bdf80206f", func := "loop.example/g03220/laws.FnExactIsWorld", spec := "fnExactIsWorld", unfollowed := true, recurses := true, loops := true, plainKeys := false, apart := false }
def FnExactIsWorldSaid : Prop := fnExactIsWorldRow.holds Tryz.pinned (OpenSpec.ofChange fnExactIsWorldSpec)

/-- ITS FALSE NEIGHBOUR: 'it returns false'. Refute it at one input. -/
def fnExactIsWorldWrong : ChangeSpec := { name := "fnExactIsWorld", fn := fun _ => fun
  | [d] => { results := [.lit (.bool false)], args := [d] }
  | _ => none }
def FnExactIsWorldWrongFalsely : Prop := fnExactIsWorldRow.holds Tryz.pinned (OpenSpec.ofChange fnExactIsWorldWrong)

/- THE SECOND FORM. 'bulk': how many values and letters a reading holds, each counted each time it is reached (what is shared counts as often as it is met; a slice's spare places count too). A statement '..UptoSaid' is the law's where the arguments, and the package variables that the reading takes, are together of bulk at most 1048576: NARROWER than '..Said'. Prove '..Said' where nothing that the law and all that it calls make is longer than what came in: it says more and counts as full. Else prove '..UptoSaid'. A law counts once. -/
mutual
def uptoBulk {H : Type} : DataW H → Nat
  | .lit (.string bytes) => bytes.length + 1
  | .lit _ => 1
  | .nil => 1
  | .ptr d => uptoBulk d + 1
  | .slice elems spare => uptoBulkAll elems + uptoBulkAll spare + 1
  | .agg parts => uptoBulkAll parts + 1
  | .iface _ d => uptoBulk d + 1
  | .map entries => uptoBulkEntries entries + 1
  | .held _ => 1
def uptoBulkAll {H : Type} : List (DataW H) → Nat
  | [] => 0
  | d :: r => uptoBulk d + uptoBulkAll r
def uptoBulkEntries {H : Type} : List (Lit × DataW H) → Nat
  | [] => 0
  | x :: r => uptoBulkEntry x + uptoBulkEntries r
def uptoBulkEntry {H : Type} : Lit × DataW H → Nat
  | (.string bytes, d) => bytes.length + uptoBulk d + 1
  | (_, d) => uptoBulk d + 1
 end
def uptoSmall : (H : Type) → List (DataW H) → Bool := fun _ ds => decide (uptoBulkAll ds ≤ 1048576)
def OpenSpec.upto (s : _root_.Go.ChangeSpec) : _root_.Go.OpenSpec := { _root_.Go.OpenSpec.ofChange s with cond := some uptoSmall }

/-- 'laws.FnRebuilt', WHERE WHAT IT READS IS OF BULK AT MOST 1048576: true; the input reads as it did. -/
def fnRebuiltUptoRow : OpenClaim := { program := "ytclpofblehlojaagreat", sum := "1c3b3ebc1a499c68b3459c66f2ab70f793591c259d4b405b3cf4516bdf80206f", func := "loop.example/g03220/laws.FnRebuilt", spec := "fnRebuilt", unfollowed := true, recurses := true, plainKeys := false, apart := false, narrowed := true }
def FnRebuiltUptoSaid : Prop := fnRebuiltUptoRow.holds Tryz.pinned (OpenSpec.upto fnRebuiltSpec)

/-- 'laws.FnIngredients', WHERE WHAT IT READS IS OF BULK AT MOST 1048576: true; the input reads as it did. -/
def fnIngredientsUptoRow : OpenClaim := { program := "ytclpofblehlojaagreat", sum := "1c3b3ebc1a499c68b3459c66f2ab70f793591c259d4b405b3cf4516bdf80206f", func := "loop.example/g03220/laws.FnIngredients", spec := "fnIngredients", unfollowed := true, recurses := true, plainKeys := false, apart := false, narrowed := true }
def FnIngredientsUptoSaid : Prop := fnIngredientsUptoRow.holds Tryz.pinned (OpenSpec.upto fnIngredientsSpec)

/-- 'laws.FnExactIsWorld', WHERE WHAT IT READS IS OF BULK AT MOST 1048576: true; the input reads as it did. -/
def fnExactIsWorldUptoRow : OpenClaim := { program := "ytclpofblehlojaagreat", sum := "1c3b3ebc1a499c68b3459c66f2ab70f793591c259d4b405b3cf4516bdf80206f", func := "loop.example/g03220/laws.FnExactIsWorld", spec := "fnExactIsWorld", unfollowed := true, recurses := true, loops := true, plainKeys := false, apart := false, narrowed := true }
def FnExactIsWorldUptoSaid : Prop := fnExactIsWorldUptoRow.holds Tryz.pinned (OpenSpec.upto fnExactIsWorldSpec)

end Rows
end Go.Proofs.YtclpofblehlojaaGreat
