/- The contracts of ProblemText (both packages) and of the law that compares them. No condition. -/
import Derived.Test.YtjaahbkdpodbbaaRows
import Derived.Test.YtjaahbkdpodbbaaCodeText
namespace Go.Proofs.Ytjaahbkdpodbbaa
open Go Go.Proofs.Ytjaahbkdpodbbaa.Ab
set_option linter.unusedVariables false

def problem21 : ByteArray := ByteArray.mk #[110, 111, 32, 115, 117, 99, 104, 32, 109, 111, 100, 117, 108, 101]
def problem22 : ByteArray := ByteArray.mk #[109, 111, 100, 117, 108, 101, 32, 105, 115, 32, 100, 101, 102, 105, 110, 101, 100, 32, 97, 108, 114, 101, 97, 100, 121]
def problem23 : ByteArray := ByteArray.mk #[98, 97, 100, 32, 101, 120, 112, 111, 114, 116]
def problem24 : ByteArray := ByteArray.mk #[109, 97, 108, 102, 111, 114, 109, 101, 100, 32, 109, 111, 100, 117, 108, 101]
def problemText (x : Int) : ByteArray := if x = 21 then problem21 else if x = 22 then problem22 else if x = 23 then problem23 else if x = 24 then problem24 else codeText x

def C19 : Prop := ∀ (x : Int), CallOK Try.prog 19 [] [li x] [] (.sv (ls (problemText x)))

theorem c19_run (x : Int) : aexec Try.prog (Option.getD (Func.body Try.f19) Code.skip) (entry [] [li x] 14) [Orc.br [Orc.fin []] [Orc.br [Orc.fin []] [Orc.br [Orc.fin []] [Orc.br
 [Orc.fin []] [Orc.call [Mode.rd] [] (AV.sv (ls (codeText x))), Orc.fin []]]]]] (finK Try.prog [ResultVar.tmp 2] [] (AV.sv (ls (problemText x)))) = ((decide (x = 21) = true → ObsEq
 [] [] ∧ AV.sv (ls problem21) = AV.sv (ls (problemText x))) ∧ (decide (x = 21) = false → (decide (x = 22) = true → ObsEq [] [] ∧ AV.sv (ls problem22) = AV.sv (ls (problemText x)))
 ∧ (decide (x = 22) = false → (decide (x = 23) = true → ObsEq [] [] ∧ AV.sv (ls problem23) = AV.sv (ls (problemText x))) ∧ (decide (x = 23) = false → (decide (x = 24) = true →
 ObsEq [] [] ∧ AV.sv (ls problem24) = AV.sv (ls (problemText x))) ∧ (decide (x = 24) = false → CallOK Try.prog 15 [] [li x] [] (AV.sv (ls (codeText x))) ∧ ObsEq [] [] ∧ AV.sv (ls
 (codeText x)) = AV.sv (ls (problemText x))))))) := by kernel_rfl

theorem c19 (x : Int) : CallOK Try.prog 19 [] [li x] [] (.sv (ls (problemText x))) := by
  refine CallOK.ofRun (c19_run x) Try.call19 Try.func19 rfl rfl rfl ?_
  refine ⟨fun h => ⟨rfl, ?_⟩, fun h1 => ⟨fun h => ⟨rfl, ?_⟩, fun h2 => ⟨fun h => ⟨rfl, ?_⟩, fun h3 => ⟨fun h => ⟨rfl, ?_⟩, fun h4 => ⟨c15 x, rfl, ?_⟩⟩⟩⟩⟩
  all_goals simp at *
  all_goals simp [problemText, *]

def C20 : Prop := ∀ (x : Int), CallOK Try.prog 20 [] [li x] [] (.sv (ls (problemText x)))

theorem c20_run (x : Int) : aexec Try.prog (Option.getD (Func.body Try.f20) Code.skip) (entry [] [li x] 14) [Orc.br [Orc.fin []] [Orc.br [Orc.fin []] [Orc.br [Orc.fin []] [Orc.br
 [Orc.fin []] [Orc.call [Mode.rd] [] (AV.sv (ls (codeText x))), Orc.fin []]]]]] (finK Try.prog [ResultVar.tmp 2] [] (AV.sv (ls (problemText x)))) = ((decide (x = 21) = true → ObsEq
 [] [] ∧ AV.sv (ls problem21) = AV.sv (ls (problemText x))) ∧ (decide (x = 21) = false → (decide (x = 22) = true → ObsEq [] [] ∧ AV.sv (ls problem22) = AV.sv (ls (problemText x)))
 ∧ (decide (x = 22) = false → (decide (x = 23) = true → ObsEq [] [] ∧ AV.sv (ls problem23) = AV.sv (ls (problemText x))) ∧ (decide (x = 23) = false → (decide (x = 24) = true →
 ObsEq [] [] ∧ AV.sv (ls problem24) = AV.sv (ls (problemText x))) ∧ (decide (x = 24) = false → CallOK Try.prog 16 [] [li x] [] (AV.sv (ls (codeText x))) ∧ ObsEq [] [] ∧ AV.sv (ls
 (codeText x)) = AV.sv (ls (problemText x))))))) := by kernel_rfl

theorem c20 (x : Int) : CallOK Try.prog 20 [] [li x] [] (.sv (ls (problemText x))) := by
  refine CallOK.ofRun (c20_run x) Try.call20 Try.func20 rfl rfl rfl ?_
  refine ⟨fun h => ⟨rfl, ?_⟩, fun h1 => ⟨fun h => ⟨rfl, ?_⟩, fun h2 => ⟨fun h => ⟨rfl, ?_⟩, fun h3 => ⟨fun h => ⟨rfl, ?_⟩, fun h4 => ⟨c16 x, rfl, ?_⟩⟩⟩⟩⟩
  all_goals simp at *
  all_goals simp [problemText, *]

def C5 : Prop := ∀ (x : Int), CallOK Try.prog 5 [] [li x] [] (.sv (lb true))

theorem c5_run (x : Int) : aexec Try.prog (Option.getD (Func.body Try.f5) Code.skip) (entry [] [li x] 12) [Orc.call [Mode.rd] [] (AV.sv (ls (problemText x))), Orc.call [Mode.rd] []
 (AV.sv (ls (problemText x))), Orc.br [Orc.fin []] [Orc.fin []]] (finK Try.prog [ResultVar.tmp 2] [] (AV.sv (lb true))) = (CallOK Try.prog 19 [] [li x] [] (AV.sv (ls (problemText
 x))) ∧ CallOK Try.prog 20 [] [li x] [] (AV.sv (ls (problemText x))) ∧ (decide (Array.toList (ByteArray.data (problemText x)) ≠ Array.toList (ByteArray.data (problemText x))) =
 true → ObsEq [] [] ∧ AV.sv (lb false) = AV.sv (lb true)) ∧ (decide (Array.toList (ByteArray.data (problemText x)) ≠ Array.toList (ByteArray.data (problemText x))) = false → ObsEq
 [] [] ∧ AV.sv (lb true) = AV.sv (lb true))) := by kernel_rfl

theorem c5 (x : Int) : CallOK Try.prog 5 [] [li x] [] (.sv (lb true)) := by
  refine CallOK.ofRun (c5_run x) Try.call5 Try.func5 rfl rfl rfl ?_
  refine ⟨c19 x, c20 x, fun h => ?_, fun _ => ⟨rfl, rfl⟩⟩
  simp at h
end Go.Proofs.Ytjaahbkdpodbbaa
