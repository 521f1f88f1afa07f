/- The contracts of ArityOf (both packages) and of the law that compares them. No condition. -/
import Derived.Test.YtjaahbkdpodbbaaRows
import Derived.Test.YtjaahbkdpodbbaaCodeText
namespace Go.Proofs.Ytjaahbkdpodbbaa
open Go Go.Proofs.Ytjaahbkdpodbbaa.Ab
set_option linter.unusedVariables false

def primNames : List ByteArray := [ByteArray.mk #[43], ByteArray.mk #[45], ByteArray.mk #[42], ByteArray.mk #[61], ByteArray.mk #[60], ByteArray.mk #[99, 111, 110, 115], ByteArray.mk #[99, 97, 114], ByteArray.mk #[99, 100, 114],
  ByteArray.mk #[110, 117, 108, 108, 63], ByteArray.mk #[112, 97, 105, 114, 63], ByteArray.mk #[110, 117, 109, 98, 101, 114, 63], ByteArray.mk #[101, 113, 63], ByteArray.mk #[110, 111, 116], ByteArray.mk #[100, 105, 115, 112, 108, 97, 121]]
def arities : List Int := [2, 2, 2, 2, 2, 2, 1, 1, 1, 1, 1, 2, 1, 1]
def arityOf (x : Int) : Int := if 0 ≤ x ∧ x ≤ 13 then arities.getD x.toNat 0 else -1

def C50 : Prop := CallOK Try.prog 50 [] [] [.arr true 1 (primNames.map strC)] (.sv (.one (.ref 0)))

theorem c50_run : aexec Try.prog (Option.getD (Func.body Try.f50) Code.skip) (entry [] [] 2) [Orc.fin [0]] (finK Try.prog [ResultVar.tmp 0] [Ob.arr true 1 (List.map strC
 primNames)] (AV.sv (SV.one (AC.ref 0)))) = (ObsEq [Ob.arr true 1 (List.map strC primNames)] [Ob.arr true 1 (List.map strC primNames)] ∧ AV.sv (SV.one (AC.ref 0)) = AV.sv (SV.one
 (AC.ref 0))) := by kernel_rfl

theorem c50  : CallOK Try.prog 50 [] [] [.arr true 1 (primNames.map strC)] (.sv (.one (.ref 0))) := by
  refine CallOK.ofRun (c50_run) Try.call50 Try.func50 rfl rfl rfl ?_
  exact ⟨rfl, rfl⟩

def C51 : Prop := CallOK Try.prog 51 [] [] [.arr true 1 (primNames.map strC)] (.sv (.one (.ref 0)))

theorem c51_run : aexec Try.prog (Option.getD (Func.body Try.f51) Code.skip) (entry [] [] 2) [Orc.fin [0]] (finK Try.prog [ResultVar.tmp 0] [Ob.arr true 1 (List.map strC
 primNames)] (AV.sv (SV.one (AC.ref 0)))) = (ObsEq [Ob.arr true 1 (List.map strC primNames)] [Ob.arr true 1 (List.map strC primNames)] ∧ AV.sv (SV.one (AC.ref 0)) = AV.sv (SV.one
 (AC.ref 0))) := by kernel_rfl

theorem c51  : CallOK Try.prog 51 [] [] [.arr true 1 (primNames.map strC)] (.sv (.one (.ref 0))) := by
  refine CallOK.ofRun (c51_run) Try.call51 Try.func51 rfl rfl rfl ?_
  exact ⟨rfl, rfl⟩

def C17 : Prop := ∀ (x : Int), CallOK Try.prog 17 [] [li x] [] (.sv (li (arityOf x)))

theorem c17_run (x : Int) : aexec Try.prog (Option.getD (Func.body Try.f17) Code.skip) (entry [] [li x] 13) [Orc.call [] [Ob.arr true 1 (List.map strC primNames)] (AV.sv (SV.one
 (AC.ref 0))), Orc.call [Mode.rd, Mode.rd, Mode.rd] [] (AV.sv (lb (decide (0 ≤ x) && decide (x ≤ 13)))), Orc.br [Orc.fin []] [Orc.cells (intC (List.getD arities (Int.toNat x) 0)),
 Orc.fin []]] (finK Try.prog [ResultVar.tmp 2] [] (AV.sv (li (arityOf x)))) = (CallOK Try.prog 50 [] [] [Ob.arr true 1 (List.map strC primNames)] (AV.sv (SV.one (AC.ref 0))) ∧ (14
 ≤ 9223372036854775807 → rng IntKind.i64 (↑14 - 1) ∧ CallOK Try.prog 49 [] [li x, li 0, li (↑14 - 1)] [] (AV.sv (lb (decide (0 ≤ x) && decide (x ≤ 13)))) ∧ ((!(decide (0 ≤ x) &&
 decide (x ≤ 13))) = true → ObsEq [] [] ∧ AV.sv (li (-1)) = AV.sv (li (arityOf x))) ∧ ((!(decide (0 ≤ x) && decide (x ≤ 13))) = false → (0 ≤ x ∧ Int.toNat x < 14) ∧ (List.map intC
 arities)[Int.toNat x]? = some [cI (List.getD arities (Int.toNat x) 0)] ∧ ObsEq [] [] ∧ AV.sv (li (List.getD arities (Int.toNat x) 0)) = AV.sv (li (arityOf x))))) := by kernel_rfl

theorem c17 (x : Int) : CallOK Try.prog 17 [] [li x] [] (.sv (li (arityOf x))) := by
  refine CallOK.ofRun (c17_run x) Try.call17 Try.func17 rfl rfl rfl ?_
  refine ⟨c50, fun _ => ⟨rng_i64.2 (by omega), c49 _ _ _, fun h => ⟨rfl, ?_⟩, fun h => ?_⟩⟩
  · have h' : ¬ (0 ≤ x ∧ x ≤ 13) := by simp at h; omega
    rw [arityOf, if_neg h']
  · have h' : 0 ≤ x ∧ x ≤ 13 := by simpa using h
    refine ⟨⟨h'.1, by omega⟩, get_of (f := intC) (L := arities) (d := 0) (by simp only [arities, List.length_cons, List.length_nil]; omega) rfl rfl, rfl, ?_⟩
    rw [arityOf, if_pos h']

def C18 : Prop := ∀ (x : Int), CallOK Try.prog 18 [] [li x] [] (.sv (li (arityOf x)))

theorem c18_run (x : Int) : aexec Try.prog (Option.getD (Func.body Try.f18) Code.skip) (entry [] [li x] 25) [Orc.call [] [Ob.arr true 1 (List.map strC primNames)] (AV.sv (SV.one
 (AC.ref 0))), Orc.br [Orc.bool true, Orc.fin []] [Orc.br [Orc.fin []] [Orc.cells (strC (List.getD primNames (Int.toNat x) ByteArray.empty)), Orc.br [Orc.bool true, Orc.fin []]
 [Orc.br [Orc.bool true, Orc.fin []] [Orc.br [Orc.bool true, Orc.fin []] [Orc.br [Orc.bool true, Orc.fin []] [Orc.br [Orc.bool true, Orc.fin []] [Orc.br [Orc.bool true, Orc.fin []]
 [Orc.br [Orc.fin []] [Orc.fin []]]]]]]]]]] (finK Try.prog [ResultVar.tmp 2] [] (AV.sv (li (arityOf x)))) = (CallOK Try.prog 51 [] [] [Ob.arr true 1 (List.map strC primNames)]
 (AV.sv (SV.one (AC.ref 0))) ∧ (decide (x < 0) = true → true = true ∧ ObsEq [] [] ∧ AV.sv (li (-1)) = AV.sv (li (arityOf x))) ∧ (decide (x < 0) = false → 14 ≤ 9223372036854775807 →
 (decide (↑14 ≤ x) = true → ObsEq [] [] ∧ AV.sv (li (-1)) = AV.sv (li (arityOf x))) ∧ (decide (↑14 ≤ x) = false → (0 ≤ x ∧ Int.toNat x < 14) ∧ (List.map strC primNames)[Int.toNat
 x]? = some [cS (List.getD primNames (Int.toNat x) ByteArray.empty)] ∧ (decide (Array.toList (ByteArray.data (List.getD primNames (Int.toNat x) ByteArray.empty)) = [43]) = true →
 true = true ∧ ObsEq [] [] ∧ AV.sv (li 2) = AV.sv (li (arityOf x))) ∧ (decide (Array.toList (ByteArray.data (List.getD primNames (Int.toNat x) ByteArray.empty)) = [43]) = false →
 (decide (Array.toList (ByteArray.data (List.getD primNames (Int.toNat x) ByteArray.empty)) = [45]) = true → true = true ∧ ObsEq [] [] ∧ AV.sv (li 2) = AV.sv (li (arityOf x))) ∧
 (decide (Array.toList (ByteArray.data (List.getD primNames (Int.toNat x) ByteArray.empty)) = [45]) = false → (decide (Array.toList (ByteArray.data (List.getD primNames (Int.toNat
 x) ByteArray.empty)) = [42]) = true → true = true ∧ ObsEq [] [] ∧ AV.sv (li 2) = AV.sv (li (arityOf x))) ∧ (decide (Array.toList (ByteArray.data (List.getD primNames (Int.toNat x)
 ByteArray.empty)) = [42]) = false → (decide (Array.toList (ByteArray.data (List.getD primNames (Int.toNat x) ByteArray.empty)) = [61]) = true → true = true ∧ ObsEq [] [] ∧ AV.sv
 (li 2) = AV.sv (li (arityOf x))) ∧ (decide (Array.toList (ByteArray.data (List.getD primNames (Int.toNat x) ByteArray.empty)) = [61]) = false → (decide (Array.toList
 (ByteArray.data (List.getD primNames (Int.toNat x) ByteArray.empty)) = [60]) = true → true = true ∧ ObsEq [] [] ∧ AV.sv (li 2) = AV.sv (li (arityOf x))) ∧ (decide (Array.toList
 (ByteArray.data (List.getD primNames (Int.toNat x) ByteArray.empty)) = [60]) = false → (decide (Array.toList (ByteArray.data (List.getD primNames (Int.toNat x) ByteArray.empty)) =
 [99, 111, 110, 115]) = true → true = true ∧ ObsEq [] [] ∧ AV.sv (li 2) = AV.sv (li (arityOf x))) ∧ (decide (Array.toList (ByteArray.data (List.getD primNames (Int.toNat x)
 ByteArray.empty)) = [99, 111, 110, 115]) = false → (decide (Array.toList (ByteArray.data (List.getD primNames (Int.toNat x) ByteArray.empty)) = [101, 113, 63]) = true → ObsEq []
 [] ∧ AV.sv (li 2) = AV.sv (li (arityOf x))) ∧ (decide (Array.toList (ByteArray.data (List.getD primNames (Int.toNat x) ByteArray.empty)) = [101, 113, 63]) = false → ObsEq [] [] ∧
 AV.sv (li 1) = AV.sv (li (arityOf x)))))))))))) := by kernel_rfl

theorem c18 (x : Int) : CallOK Try.prog 18 [] [li x] [] (.sv (li (arityOf x))) := by
  refine CallOK.ofRun (c18_run x) Try.call18 Try.func18 rfl rfl rfl ?_
  refine ⟨c51, fun h => ⟨rfl, rfl, ?_⟩, fun h _ => ⟨fun h2 => ⟨rfl, ?_⟩, fun h2 => ?_⟩⟩
  · have h' : ¬ (0 ≤ x ∧ x ≤ 13) := by simp at h; omega
    rw [arityOf, if_neg h']
  · have h' : ¬ (0 ≤ x ∧ x ≤ 13) := by simp at h h2; omega
    rw [arityOf, if_neg h']
  · have h' : 0 ≤ x ∧ x ≤ 13 := by simp at h h2; omega
    refine ⟨⟨h'.1, by omega⟩, get_of (f := strC) (L := primNames) (d := .empty) (by simp only [primNames, List.length_cons, List.length_nil]; omega) rfl rfl, ?_⟩
    have hx : x = 0 ∨ x = 1 ∨ x = 2 ∨ x = 3 ∨ x = 4 ∨ x = 5 ∨ x = 6 ∨ x = 7 ∨ x = 8 ∨ x = 9 ∨ x = 10 ∨ x = 11 ∨ x = 12 ∨ x = 13 := by omega
    clear h h2 h'
    rcases hx with rfl | rfl | rfl | rfl | rfl | rfl | rfl | rfl | rfl | rfl | rfl | rfl | rfl | rfl <;> simp [primNames, arityOf, arities, ObsEq]

def C4 : Prop := ∀ (x : Int), CallOK Try.prog 4 [] [li x] [] (.sv (lb true))

theorem c4_run (x : Int) : aexec Try.prog (Option.getD (Func.body Try.f4) Code.skip) (entry [] [li x] 12) [Orc.call [Mode.rd] [] (AV.sv (li (arityOf x))), Orc.call [Mode.rd] []
 (AV.sv (li (arityOf x))), Orc.br [Orc.fin []] [Orc.fin []]] (finK Try.prog [ResultVar.tmp 2] [] (AV.sv (lb true))) = (CallOK Try.prog 17 [] [li x] [] (AV.sv (li (arityOf x))) ∧
 CallOK Try.prog 18 [] [li x] [] (AV.sv (li (arityOf x))) ∧ (decide (arityOf x ≠ arityOf x) = true → ObsEq [] [] ∧ AV.sv (lb false) = AV.sv (lb true)) ∧ (decide (arityOf x ≠
 arityOf x) = false → ObsEq [] [] ∧ AV.sv (lb true) = AV.sv (lb true))) := by kernel_rfl

theorem c4 (x : Int) : CallOK Try.prog 4 [] [li x] [] (.sv (lb true)) := by
  refine CallOK.ofRun (c4_run x) Try.call4 Try.func4 rfl rfl rfl ?_
  refine ⟨c17 x, c18 x, fun h => ?_, fun _ => ⟨rfl, rfl⟩⟩
  simp at h
end Go.Proofs.Ytjaahbkdpodbbaa
