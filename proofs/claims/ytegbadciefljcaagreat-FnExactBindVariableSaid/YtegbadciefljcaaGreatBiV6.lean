/- The program's BindVariable returns what the reference's returns, for all arguments. No condition. -/
import Derived.Test.YtegbadciefljcaaGreatBiV5
section
namespace Go.Proofs.YtegbadciefljcaaGreat
open Go Go.Proofs.YtegbadciefljcaaGreat.Ab
set_option linter.unusedVariables false
set_option linter.unusedSimpArgs false
set_option maxHeartbeats 4000000
abbrev Zny (A : List Int) (B : List Int) : Prop := CallOK Tryz.prog 69 [] [ll (A.map intC), ll (B.map intC)] [] (.sv (lb (decide (A = B))))
def Zgy (A : List Int) (B : List Int) (x0 : SV) : St := St.mk (regsOf 26 [(0, AV.sv (ll (List.map intC A))), (1, AV.sv (ll (List.map intC B))), (5, AV.sv x0)]) [] 0 
def Z4j (A : List Int) (B : List Int) (k : Nat) : St := Zgy A B (li (k : Int)) 
abbrev Zag (A : List Int) (B : List Int) : Nat -> St -> Prop := Head (Z4j A B) (fun k => k <= List.length A /\ List.length A <= 9223372036854775807 /\ List.length A =
 List.length B /\ List.take k A = List.take k B) fun k => List.length A - k 
def Zf1 (A : List Int) (B : List Int) : St := St.mk (regsOf 26 []) [] 0 
def Z98 (A : List Int) (B : List Int) (x0 : SV) : St := St.mk (regsOf 26 [(4, AV.sv x0)]) [] 0 
def Zm3 (A : List Int) (B : List Int) : List (Prop × AEx × St) := [(A = B, AEx.exit 0, Zf1 A B), (A ≠ B, AEx.ret, Z98 A B (lb false))]

theorem Zr9 {A : List Int} {B : List Int} {k : Nat} {x0 : SV} (h0 : x0 = (li (k : Int))) : Zgy A B x0 = Z4j A B k := by
  rw [h0]
  rfl
theorem Zop {A : List Int} {B : List Int} {x0 y0 : SV} (h0 : x0 = y0) : Z98 A B x0 = Z98 A B y0 := by rw [h0]
theorem Zv8 (A : List Int) (B : List Int) (k : Nat) : aexec Tryz.prog (loopAt Tryz.f69 0) (Z4j A B k) [.br [.draw [], .cells (intC (List.getD A k
 default)), .cells (intC (List.getD B k default)), .br [.ghost (.sel [] [4]), .out 1] [.ghost (.sel [] [0, 1, 5]), .goto (List.length A - (k + 1))
 (Z4j A B (k + 1))]] [.ghost (.sel [] []), .out 0]] (loopK (Zag A B) (Zm3 A B) (List.length A - k)) = (List.length (List.map intC A) <=
 9223372036854775807 -> (decide ((k : Int) < (↑(List.length (List.map intC A)) : Int)) = true -> (0 <= (k : Int) /\ (List.map intC A)[Int.toNat (k : Int)]? = some [cI (List.getD A k
 0)]) /\ (0 <= (k : Int) /\ (List.map intC B)[Int.toNat (k : Int)]? = some [cI (List.getD B k 0)]) /\ (decide (List.getD A k (0 : Int) ≠ List.getD B k 0) = true -> A ≠ B /\
 Z98 A B (lb false) = Z98 A B (lb false)) /\ (decide (List.getD A k (0 : Int) ≠ List.getD B k 0) = false -> rng .i64 ((k : Int) + 1) /\ List.length A - (k +
 1) < List.length A - k /\ Zgy A B (li ((k : Int) + 1)) = Z4j A B (k + 1) /\ Zag A B (List.length A - (k + 1)) (Z4j A B (k + 1)))) /\ (decide ((↑k :
 Int) < (↑(List.length (List.map intC A)) : Int)) = false -> A = B /\ Zf1 A B = Zf1 A B)) := by kernel_rfl
theorem Zzz (A : List Int) (B : List Int)  : LoopSem Tryz.prog (loopAt Tryz.f69 0) (Zag A B) (Zm3 A B) := by
  refine LoopSem.ofHead wide fun k h => ⟨_, _, Zv8 A B k, ?_⟩
  with_reducible repeat' (first | apply And.intro | exact flatI | exact flatS | exact rowLens | (intro; skip) | apply obsN | apply obsC | apply obA | apply obM | apply obB | apply svA | apply tupA | apply lcA | apply lcS | apply svC | apply liC | apply lbC | apply lsC | apply vIc | apply vBc | apply vSc | apply vLc | apply mapC | apply hdI | apply Zr9 | apply Zop)
  all_goals (try simp only [std] at *)
  all_goals (try (first | with_reducible rfl | omega | assumption | exact dT ‹_› | exact dF ‹_› | ((first | refine rowGet ?_ | refine getC ?_ rfl); (first | omega | (simp only [std]; omega) | grind)) | (show (_ : St) = _; rfl) | grind [take_eq, snocI, snocS, rowSnoc]))
theorem Zyn (A : List Int) (B : List Int) : aexec Tryz.prog (Tryz.f69.body.getD .skip) (entry [] [ll (List.map intC A), ll (List.map intC B)] 26) [.br
 [.fin []] [.ghost (.sel [] [0, 1, 5]), .loop (List.length A - 0) (Z4j A B 0) (Zag A B) [(A = B, AEx.exit 0, Zf1 A B, [.fin []]), (A ≠ B,
 AEx.ret, Z98 A B (lb false), [.fin []])]]] (finK Tryz.prog [ResultVar.tmp 4] [] (AV.sv (lb (decide (A = B))))) = (List.length (List.map intC A) <= 9223372036854775807 ->
 List.length (List.map intC B) <= 9223372036854775807 -> (decide ((↑(List.length (List.map intC A)) : Int) ≠ (↑(List.length (List.map intC B)) : Int)) = true -> ObsEq [] [] /\ AV.sv
 (lb false) = AV.sv (lb (decide (A = B)))) /\ (decide ((↑(List.length (List.map intC A)) : Int) ≠ (↑(List.length (List.map intC B)) : Int)) = false -> Zgy A B (li 0) =
 Z4j A B 0 /\ Zag A B (List.length A - 0) (Z4j A B 0) /\ LoopSem Tryz.prog (loopAt Tryz.f69 0) (Zag A B) (Zm3 A B) /\ (A = B -> ObsEq [] [] /\
 AV.sv (lb true) = AV.sv (lb (decide (A = B)))) /\ ((A = B -> False) -> ObsEq [] [] /\ AV.sv (lb false) = AV.sv (lb (decide (A = B)))) /\ True)) := by kernel_rfl
theorem Zfv (A B : List Int)  : Zny A B := by
  refine CallOK.ofRun wide (Zyn A B) Tryz.call69 Tryz.func69 rfl rfl rfl ?_
  with_reducible repeat' (first | apply And.intro | exact flatI | exact flatS | exact rowLens | (intro; skip) | apply obsN | apply obsC | apply obA | apply obM | apply obB | apply svA | apply tupA | apply lcA | apply lcS | apply svC | apply liC | apply lbC | apply lsC | apply vIc | apply vBc | apply vSc | apply vLc | apply mapC | apply hdI | apply Zr9 | apply Zzz | apply Zop)
  all_goals (try simp only [std] at *)
  all_goals (try (first | with_reducible rfl | omega | assumption | exact dT ‹_› | exact dF ‹_› | ((first | refine rowGet ?_ | refine getC ?_ rfl); (first | omega | (simp only [std]; omega) | grind)) | (show (_ : St) = _; rfl) | grind [snocI, snocS, rowSnoc]))
abbrev Z9o (A : List Syntax) (B : List Syntax) : Prop := CallOK Tryz.prog 35 [] [ll (A.map syntaxC), ll (B.map syntaxC)] [] (.sv (lb (decide (A = B))))
abbrev Z4r (x : Syntax) (y : Syntax) : Prop := CallOK Tryz.prog 36 [] [syntaxA x, syntaxA y] [] (.sv (lb (decide (x = y))))
def Zby (A : List Syntax) (B : List Syntax) (x0 : SV) : St := St.mk (regsOf 27 [(0, AV.sv (ll (List.map syntaxC A))), (1, AV.sv (ll (List.map syntaxC B))), (5, AV.sv
 x0)]) [] 0 
def Z29 (A : List Syntax) (B : List Syntax) (k : Nat) : St := Zby A B (li (k : Int)) 
abbrev Z6o (A : List Syntax) (B : List Syntax) : Nat -> St -> Prop := Head (Z29 A B) (fun k => k <= List.length A /\ List.length A <= 9223372036854775807 /\
 List.length A = List.length B /\ List.take k A = List.take k B) fun k => List.length A - k 
def Zar (A : List Syntax) (B : List Syntax) : St := St.mk (regsOf 27 []) [] 0 
def Z57 (A : List Syntax) (B : List Syntax) (x0 : SV) : St := St.mk (regsOf 27 [(4, AV.sv x0)]) [] 0 
def Zfw (A : List Syntax) (B : List Syntax) : List (Prop × AEx × St) := [(A = B, AEx.exit 0, Zar A B), (A ≠ B, AEx.ret, Z57 A B (lb false))]

theorem Zn4 {A : List Syntax} {B : List Syntax} {k : Nat} {x0 : SV} (h0 : x0 = (li (k : Int))) : Zby A B x0 = Z29 A B k := by
  rw [h0]
  rfl
theorem Zk8 {A : List Syntax} {B : List Syntax} {x0 y0 : SV} (h0 : x0 = y0) : Z57 A B x0 = Z57 A B y0 := by rw [h0]
theorem Zql (A : List Syntax) (B : List Syntax) (k : Nat) : aexec Tryz.prog (loopAt Tryz.f35 0) (Z29 A B k) [.br [.draw [], .cells (syntaxF
 (List.getD A k default)), .cells (syntaxF (List.getD B k default)), .call [Mode.rd, Mode.rd] [] (AV.sv (lb (decide (List.getD A k default = List.getD B k default)))), .br
 [.ghost (.sel [] [4]), .out 1] [.ghost (.sel [] [0, 1, 5]), .goto (List.length A - (k + 1)) (Z29 A B (k + 1))]] [.ghost (.sel [] []),
 .out 0]] (loopK (Z6o A B) (Zfw A B) (List.length A - k)) = (List.length (List.map syntaxC A) <= 9223372036854775807 -> (decide ((k : Int) < (↑(List.length
 (List.map syntaxC A)) : Int)) = true -> (0 <= (k : Int) /\ (List.map syntaxC A)[Int.toNat (k : Int)]? = some (syntaxF (List.getD A k default))) /\ (0 <= (k : Int) /\ (List.map
 syntaxC B)[Int.toNat (k : Int)]? = some (syntaxF (List.getD B k default))) /\ Z4r (List.getD A k default) (List.getD B k default) /\ ((!decide (List.getD A k default =
 List.getD B k default)) = true -> A ≠ B /\ Z57 A B (lb false) = Z57 A B (lb false)) /\ ((!decide (List.getD A k default = List.getD B k default)) = false ->
 rng .i64 ((k : Int) + 1) /\ List.length A - (k + 1) < List.length A - k /\ Zby A B (li ((k : Int) + 1)) = Z29 A B (k + 1) /\ Z6o A B
 (List.length A - (k + 1)) (Z29 A B (k + 1)))) /\ (decide ((k : Int) < (↑(List.length (List.map syntaxC A)) : Int)) = false -> A = B /\ Zar A B =
 Zar A B)) := by kernel_rfl
theorem Zv9 (A : List Syntax) (B : List Syntax) (ih : ∀ (x : Syntax), x ∈ A -> ∀ (y : Syntax), Z4r x y)  : LoopSem Tryz.prog (loopAt Tryz.f35 0) (Z6o
 A B) (Zfw A B) := by
  refine LoopSem.ofHead wide fun k h => ⟨_, _, Zql A B k, ?_⟩
  with_reducible repeat' (first | apply And.intro | exact flatI | exact flatS | exact rowLens | exact ih | (intro; skip) | apply obsN | apply obsC | apply obA | apply obM | apply obB | apply svA | apply tupA | apply lcA | apply lcS | apply svC | apply liC | apply lbC | apply lsC | apply vIc | apply vBc | apply vSc | apply vLc | apply mapC | apply hdI | apply Zn4 | apply Zk8 | apply ih)
  all_goals (try simp only [std] at *)
  all_goals (try (first | with_reducible apply ih | (simp only [<- List.map_append]; first | with_reducible apply ih)))
  all_goals (try (first | with_reducible rfl | omega | assumption | exact dT ‹_› | exact dF ‹_› | ((first | refine rowGet ?_ | refine getC ?_ rfl); (first | omega | (simp only [std]; omega) | grind)) | (show (_ : St) = _; rfl) | grind [take_eq, getD_mem', snocI, snocS, rowSnoc]))
theorem Ztv (A : List Syntax) (B : List Syntax) : aexec Tryz.prog (Tryz.f35.body.getD .skip) (entry [] [ll (List.map syntaxC A), ll (List.map syntaxC
 B)] 27) [.br [.fin []] [.ghost (.sel [] [0, 1, 5]), .loop (List.length A - 0) (Z29 A B 0) (Z6o A B) [(A = B, AEx.exit 0, Zar A
 B, [.fin []]), (A ≠ B, AEx.ret, Z57 A B (lb false), [.fin []])]]] (finK Tryz.prog [ResultVar.tmp 4] [] (AV.sv (lb (decide (A = B))))) = (List.length (List.map
 syntaxC A) <= 9223372036854775807 -> List.length (List.map syntaxC B) <= 9223372036854775807 -> (decide ((↑(List.length (List.map syntaxC A)) : Int) ≠ (↑(List.length (List.map syntaxC
 B)) : Int)) = true -> ObsEq [] [] /\ AV.sv (lb false) = AV.sv (lb (decide (A = B)))) /\ (decide ((↑(List.length (List.map syntaxC A)) : Int) ≠ (↑(List.length (List.map syntaxC B)) :
 Int)) = false -> Zby A B (li 0) = Z29 A B 0 /\ Z6o A B (List.length A - 0) (Z29 A B 0) /\ LoopSem Tryz.prog (loopAt Tryz.f35 0)
 (Z6o A B) (Zfw A B) /\ (A = B -> ObsEq [] [] /\ AV.sv (lb true) = AV.sv (lb (decide (A = B)))) /\ ((A = B -> False) -> ObsEq [] [] /\ AV.sv (lb false) = AV.sv (lb
 (decide (A = B)))) /\ True)) := by kernel_rfl
theorem Zah (A B : List Syntax) (ih : ∀ x ∈ A, ∀ (y : Syntax), Z4r x y)  : Z9o A B := by
  refine CallOK.ofRun wide (Ztv A B) Tryz.call35 Tryz.func35 rfl rfl rfl ?_
  with_reducible repeat' (first | apply And.intro | exact flatI | exact flatS | exact rowLens | exact ih | (intro; skip) | apply obsN | apply obsC | apply obA | apply obM | apply obB | apply svA | apply tupA | apply lcA | apply lcS | apply svC | apply liC | apply lbC | apply lsC | apply vIc | apply vBc | apply vSc | apply vLc | apply mapC | apply hdI | apply Zn4 | apply Zv9 | apply Zk8)
  all_goals (try simp only [std] at *)
  all_goals (try (first | with_reducible apply ih | (simp only [<- List.map_append]; first | with_reducible apply ih)))
  all_goals (try (first | with_reducible rfl | omega | assumption | exact dT ‹_› | exact dF ‹_› | ((first | refine rowGet ?_ | refine getC ?_ rfl); (first | omega | (simp only [std]; omega) | grind)) | (show (_ : St) = _; rfl) | grind [snocI, snocS, rowSnoc]))
theorem Zsa (x : Syntax) (y : Syntax) : aexec Tryz.prog (Tryz.f36.body.getD .skip) (entry [] [syntaxA x, syntaxA y] 32) [.br [.fin []] [.br
 [.fin []] [.br [.fin []] [.call [Mode.rd, Mode.rd] [] (AV.sv (lb (decide (Syntax.scopes x = Syntax.scopes y)))), .br [.fin []] [.call [Mode.rd, Mode.rd] []
 (AV.sv (lb (decide (Syntax.items x = Syntax.items y)))), .br [.fin []] [.fin []]]]]]] (finK Tryz.prog [ResultVar.tmp 4] [] (AV.sv (lb (decide (x = y))))) = ((decide
 (Syntax.kind x ≠ Syntax.kind y) = true -> ObsEq [] [] /\ AV.sv (lb false) = AV.sv (lb (decide (x = y)))) /\ (decide (Syntax.kind x ≠ Syntax.kind y) = false -> (decide (Syntax.number x
 ≠ Syntax.number y) = true -> ObsEq [] [] /\ AV.sv (lb false) = AV.sv (lb (decide (x = y)))) /\ (decide (Syntax.number x ≠ Syntax.number y) = false -> (decide (Array.toList
 (ByteArray.data (Syntax.text x)) ≠ Array.toList (ByteArray.data (Syntax.text y))) = true -> ObsEq [] [] /\ AV.sv (lb false) = AV.sv (lb (decide (x = y)))) /\ (decide (Array.toList
 (ByteArray.data (Syntax.text x)) ≠ Array.toList (ByteArray.data (Syntax.text y))) = false -> Zny (Syntax.scopes x) (Syntax.scopes y) /\ ((!decide (Syntax.scopes x =
 Syntax.scopes y)) = true -> ObsEq [] [] /\ AV.sv (lb false) = AV.sv (lb (decide (x = y)))) /\ ((!decide (Syntax.scopes x = Syntax.scopes y)) = false -> Z9o (Syntax.items x)
 (Syntax.items y) /\ ((!decide (Syntax.items x = Syntax.items y)) = true -> ObsEq [] [] /\ AV.sv (lb false) = AV.sv (lb (decide (x = y)))) /\ ((!decide (Syntax.items x = Syntax.items
 y)) = false -> ObsEq [] [] /\ AV.sv (lb true) = AV.sv (lb (decide (x = y))))))))) := by kernel_rfl
theorem Zyo (x y : Syntax) (ih : ∀ z ∈ x.items, ∀ (y : Syntax), Z4r z y)  : Z4r x y := by
  refine CallOK.ofRun wide (Zsa x y) Tryz.call36 Tryz.func36 rfl rfl rfl ?_
  simp only [syntaxExt]
  with_reducible repeat' (first | apply And.intro | exact flatI | exact flatS | exact rowLens | exact ih | (intro; skip) | apply obsN | apply obsC | apply obA | apply obM | apply obB | apply svA | apply tupA | apply lcA | apply lcS | apply svC | apply liC | apply lbC | apply lsC | apply vIc | apply vBc | apply vSc | apply vLc | apply mapC | apply Zfv | apply Zah | apply ih)
  all_goals (try simp only [std] at *)
  all_goals (try (first | with_reducible apply Zfv | with_reducible apply Zah | with_reducible apply ih | (simp only [<- List.map_append]; first | with_reducible apply Zfv | with_reducible apply Zah | with_reducible apply ih)))
  all_goals (try (first | with_reducible rfl | omega | assumption | exact dT ‹_› | exact dF ‹_› | ((first | refine rowGet ?_ | refine getC ?_ rfl); (first | omega | (simp only [std]; omega) | grind)) | (show (_ : St) = _; rfl) | grind [bytes_ext, snocI, snocS, rowSnoc]))
theorem Zbz (x : Syntax) : ∀ (y : Syntax), Z4r x y := Syntax.ind (P := fun x => ∀ (y : Syntax), Z4r x y) (fun x ih y => Zyo x y ih) x
abbrev Zoq (x : Binding) (y : Binding) : Prop := CallOK Tryz.prog 102 [] [bindingA x, bindingA y] [] (.sv (lb (decide (x = y))))
theorem Ztw (x : Binding) (y : Binding) : aexec Tryz.prog (Tryz.f102.body.getD .skip) (entry [] [bindingA x, bindingA y] 26) [.br [.fin []]
 [.call [Mode.rd, Mode.rd] [] (AV.sv (lb (decide (Binding.scopes x = Binding.scopes y)))), .br [.fin []] [.br [.fin []] [.br [.fin []] [.fin []]]]]] (finK
 Tryz.prog [ResultVar.tmp 4] [] (AV.sv (lb (decide (x = y))))) = ((decide (Array.toList (ByteArray.data (Binding.text x)) ≠ Array.toList (ByteArray.data (Binding.text y))) = true ->
 ObsEq [] [] /\ AV.sv (lb false) = AV.sv (lb (decide (x = y)))) /\ (decide (Array.toList (ByteArray.data (Binding.text x)) ≠ Array.toList (ByteArray.data (Binding.text y))) = false ->
 Zny (Binding.scopes x) (Binding.scopes y) /\ ((!decide (Binding.scopes x = Binding.scopes y)) = true -> ObsEq [] [] /\ AV.sv (lb false) = AV.sv (lb (decide (x = y)))) /\
 ((!decide (Binding.scopes x = Binding.scopes y)) = false -> (decide (Binding.kind x ≠ Binding.kind y) = true -> ObsEq [] [] /\ AV.sv (lb false) = AV.sv (lb (decide (x = y)))) /\
 (decide (Binding.kind x ≠ Binding.kind y) = false -> (decide (Binding.number x ≠ Binding.number y) = true -> ObsEq [] [] /\ AV.sv (lb false) = AV.sv (lb (decide (x = y)))) /\ (decide
 (Binding.number x ≠ Binding.number y) = false -> ObsEq [] [] /\ AV.sv (lb true) = AV.sv (lb (decide (x = y)))))))) := by kernel_rfl
theorem Zai (x y : Binding)  : Zoq x y := by
  refine CallOK.ofRun wide (Ztw x y) Tryz.call102 Tryz.func102 rfl rfl rfl ?_
  simp only [bindingExt]
  with_reducible repeat' (first | apply And.intro | exact flatI | exact flatS | exact rowLens | (intro; skip) | apply obsN | apply obsC | apply obA | apply obM | apply obB | apply svA | apply tupA | apply lcA | apply lcS | apply svC | apply liC | apply lbC | apply lsC | apply vIc | apply vBc | apply vSc | apply vLc | apply mapC | apply Zfv)
  all_goals (try simp only [std] at *)
  all_goals (try (first | with_reducible apply Zfv | (simp only [<- List.map_append]; first | with_reducible apply Zfv)))
  all_goals (try (first | with_reducible rfl | omega | assumption | exact dT ‹_› | exact dF ‹_› | ((first | refine rowGet ?_ | refine getC ?_ rfl); (first | omega | (simp only [std]; omega) | grind)) | (show (_ : St) = _; rfl) | grind [bytes_ext, snocI, snocS, rowSnoc]))
abbrev Zn5 (A : List Binding) (B : List Binding) : Prop := CallOK Tryz.prog 34 [] [ll (A.map bindingC), ll (B.map bindingC)] [] (.sv (lb (decide (A = B))))
def Zas (A : List Binding) (B : List Binding) (x0 : SV) : St := St.mk (regsOf 27 [(0, AV.sv (ll (List.map bindingC A))), (1, AV.sv (ll (List.map bindingC B))), (5,
 AV.sv x0)]) [] 0 
def Z1n (A : List Binding) (B : List Binding) (k : Nat) : St := Zas A B (li (k : Int)) 
abbrev Z58 (A : List Binding) (B : List Binding) : Nat -> St -> Prop := Head (Z1n A B) (fun k => k <= List.length A /\ List.length A <= 9223372036854775807 /\
 List.length A = List.length B /\ List.take k A = List.take k B) fun k => List.length A - k 
def Z9k (A : List Binding) (B : List Binding) : St := St.mk (regsOf 27 []) [] 0 
def Z43 (A : List Binding) (B : List Binding) (x0 : SV) : St := St.mk (regsOf 27 [(4, AV.sv x0)]) [] 0 
def Zf2 (A : List Binding) (B : List Binding) : List (Prop × AEx × St) := [(A = B, AEx.exit 0, Z9k A B), (A ≠ B, AEx.ret, Z43 A B (lb false))]

theorem Zl5 {A : List Binding} {B : List Binding} {k : Nat} {x0 : SV} (h0 : x0 = (li (k : Int))) : Zas A B x0 = Z1n A B k := by
  rw [h0]
  rfl
theorem Zi7 {A : List Binding} {B : List Binding} {x0 y0 : SV} (h0 : x0 = y0) : Z43 A B x0 = Z43 A B y0 := by rw [h0]
theorem Zqa (A : List Binding) (B : List Binding) (k : Nat) : aexec Tryz.prog (loopAt Tryz.f34 0) (Z1n A B k) [.br [.draw [], .cells (bindingF
 (List.getD A k default)), .cells (bindingF (List.getD B k default)), .call [Mode.rd, Mode.rd] [] (AV.sv (lb (decide (List.getD A k default = List.getD B k default)))),
 .br [.ghost (.sel [] [4]), .out 1] [.ghost (.sel [] [0, 1, 5]), .goto (List.length A - (k + 1)) (Z1n A B (k + 1))]] [.ghost (.sel []
 []), .out 0]] (loopK (Z58 A B) (Zf2 A B) (List.length A - k)) = (List.length (List.map bindingC A) <= 9223372036854775807 -> (decide ((k : Int) <
 (↑(List.length (List.map bindingC A)) : Int)) = true -> (0 <= (k : Int) /\ (List.map bindingC A)[Int.toNat (k : Int)]? = some (bindingF (List.getD A k default))) /\ (0 <= (k : Int)
 /\ (List.map bindingC B)[Int.toNat (k : Int)]? = some (bindingF (List.getD B k default))) /\ Zoq (List.getD A k default) (List.getD B k default) /\ ((!decide (List.getD A
 k default = List.getD B k default)) = true -> A ≠ B /\ Z43 A B (lb false) = Z43 A B (lb false)) /\ ((!decide (List.getD A k default = List.getD B k
 default)) = false -> rng .i64 ((k : Int) + 1) /\ List.length A - (k + 1) < List.length A - k /\ Zas A B (li ((k : Int) + 1)) = Z1n A B (k + 1) /\
 Z58 A B (List.length A - (k + 1)) (Z1n A B (k + 1)))) /\ (decide ((k : Int) < (↑(List.length (List.map bindingC A)) : Int)) = false -> A = B /\
 Z9k A B = Z9k A B)) := by kernel_rfl
theorem Ztx (A : List Binding) (B : List Binding)  : LoopSem Tryz.prog (loopAt Tryz.f34 0) (Z58 A B) (Zf2 A B) := by
  refine LoopSem.ofHead wide fun k h => ⟨_, _, Zqa A B k, ?_⟩
  with_reducible repeat' (first | apply And.intro | exact flatI | exact flatS | exact rowLens | (intro; skip) | apply obsN | apply obsC | apply obA | apply obM | apply obB | apply svA | apply tupA | apply lcA | apply lcS | apply svC | apply liC | apply lbC | apply lsC | apply vIc | apply vBc | apply vSc | apply vLc | apply mapC | apply hdI | apply Zl5 | apply Zi7 | apply Zai)
  all_goals (try simp only [std] at *)
  all_goals (try (first | with_reducible apply Zai | (simp only [<- List.map_append]; first | with_reducible apply Zai)))
  all_goals (try (first | with_reducible rfl | omega | assumption | exact dT ‹_› | exact dF ‹_› | ((first | refine rowGet ?_ | refine getC ?_ rfl); (first | omega | (simp only [std]; omega) | grind)) | (show (_ : St) = _; rfl) | grind [take_eq, getD_mem', snocI, snocS, rowSnoc]))
theorem Zsb (A : List Binding) (B : List Binding) : aexec Tryz.prog (Tryz.f34.body.getD .skip) (entry [] [ll (List.map bindingC A), ll (List.map
 bindingC B)] 27) [.br [.fin []] [.ghost (.sel [] [0, 1, 5]), .loop (List.length A - 0) (Z1n A B 0) (Z58 A B) [(A = B, AEx.exit 0,
 Z9k A B, [.fin []]), (A ≠ B, AEx.ret, Z43 A B (lb false), [.fin []])]]] (finK Tryz.prog [ResultVar.tmp 4] [] (AV.sv (lb (decide (A = B))))) =
 (List.length (List.map bindingC A) <= 9223372036854775807 -> List.length (List.map bindingC B) <= 9223372036854775807 -> (decide ((↑(List.length (List.map bindingC A)) : Int) ≠
 (↑(List.length (List.map bindingC B)) : Int)) = true -> ObsEq [] [] /\ AV.sv (lb false) = AV.sv (lb (decide (A = B)))) /\ (decide ((↑(List.length (List.map bindingC A)) : Int) ≠
 (↑(List.length (List.map bindingC B)) : Int)) = false -> Zas A B (li 0) = Z1n A B 0 /\ Z58 A B (List.length A - 0) (Z1n A B 0) /\
 LoopSem Tryz.prog (loopAt Tryz.f34 0) (Z58 A B) (Zf2 A B) /\ (A = B -> ObsEq [] [] /\ AV.sv (lb true) = AV.sv (lb (decide (A = B)))) /\ ((A = B -> False) ->
 ObsEq [] [] /\ AV.sv (lb false) = AV.sv (lb (decide (A = B)))) /\ True)) := by kernel_rfl
theorem Zk9 (A B : List Binding)  : Zn5 A B := by
  refine CallOK.ofRun wide (Zsb A B) Tryz.call34 Tryz.func34 rfl rfl rfl ?_
  with_reducible repeat' (first | apply And.intro | exact flatI | exact flatS | exact rowLens | (intro; skip) | apply obsN | apply obsC | apply obA | apply obM | apply obB | apply svA | apply tupA | apply lcA | apply lcS | apply svC | apply liC | apply lbC | apply lsC | apply vIc | apply vBc | apply vSc | apply vLc | apply mapC | apply hdI | apply Zl5 | apply Ztx | apply Zi7 | apply Zai)
  all_goals (try simp only [std] at *)
  all_goals (try (first | with_reducible apply Zai | (simp only [<- List.map_append]; first | with_reducible apply Zai)))
  all_goals (try (first | with_reducible rfl | omega | assumption | exact dT ‹_› | exact dF ‹_› | ((first | refine rowGet ?_ | refine getC ?_ rfl); (first | omega | (simp only [std]; omega) | grind)) | (show (_ : St) = _; rfl) | grind [snocI, snocS, rowSnoc]))
abbrev Zra (x : Rules) (y : Rules) : Prop := CallOK Tryz.prog 44 [] [rulesA x, rulesA y] [] (.sv (lb (decide (x = y))))
theorem Zwv (x : Rules) (y : Rules) : aexec Tryz.prog (Tryz.f44.body.getD .skip) (entry [] [rulesA x, rulesA y] 23) [.call [Mode.rd, Mode.rd] []
 (AV.sv (lb (decide (Rules.literals x = Rules.literals y)))), .br [.fin []] [.call [Mode.rd, Mode.rd] [] (AV.sv (lb (decide (Rules.patterns x = Rules.patterns y)))),
 .br [.fin []] [.call [Mode.rd, Mode.rd] [] (AV.sv (lb (decide (Rules.templates x = Rules.templates y)))), .br [.fin []] [.fin []]]]] (finK Tryz.prog
 [ResultVar.tmp 4] [] (AV.sv (lb (decide (x = y))))) = (Z9o (Rules.literals x) (Rules.literals y) /\ ((!decide (Rules.literals x = Rules.literals y)) = true -> ObsEq [] []
 /\ AV.sv (lb false) = AV.sv (lb (decide (x = y)))) /\ ((!decide (Rules.literals x = Rules.literals y)) = false -> Z9o (Rules.patterns x) (Rules.patterns y) /\ ((!decide
 (Rules.patterns x = Rules.patterns y)) = true -> ObsEq [] [] /\ AV.sv (lb false) = AV.sv (lb (decide (x = y)))) /\ ((!decide (Rules.patterns x = Rules.patterns y)) = false ->
 Z9o (Rules.templates x) (Rules.templates y) /\ ((!decide (Rules.templates x = Rules.templates y)) = true -> ObsEq [] [] /\ AV.sv (lb false) = AV.sv (lb (decide (x = y)))) /\
 ((!decide (Rules.templates x = Rules.templates y)) = false -> ObsEq [] [] /\ AV.sv (lb true) = AV.sv (lb (decide (x = y))))))) := by kernel_rfl
theorem Zdo (x y : Rules)  : Zra x y := by
  refine CallOK.ofRun wide (Zwv x y) Tryz.call44 Tryz.func44 rfl rfl rfl ?_
  simp only [rulesExt]
  with_reducible repeat' (first | apply And.intro | exact flatI | exact flatS | exact rowLens | (intro; skip) | apply obsN | apply obsC | apply obA | apply obM | apply obB | apply svA | apply tupA | apply lcA | apply lcS | apply svC | apply liC | apply lbC | apply lsC | apply vIc | apply vBc | apply vSc | apply vLc | apply mapC | apply Zah | apply Zbz)
  all_goals (try simp only [std] at *)
  all_goals (try (first | with_reducible apply Zah | with_reducible apply Zbz | (simp only [<- List.map_append]; first | with_reducible apply Zah | with_reducible apply Zbz)))
  all_goals (try (first | with_reducible rfl | omega | assumption | exact dT ‹_› | exact dF ‹_› | ((first | refine rowGet ?_ | refine getC ?_ rfl); (first | omega | (simp only [std]; omega) | grind)) | (show (_ : St) = _; rfl) | grind [bytes_ext, snocI, snocS, rowSnoc]))
abbrev Zqb (A : List Rules) (B : List Rules) : Prop := CallOK Tryz.prog 90 [] [ll (A.map rulesC), ll (B.map rulesC)] [] (.sv (lb (decide (A = B))))
def Zd5 (A : List Rules) (B : List Rules) (x0 : SV) : St := St.mk (regsOf 27 [(0, AV.sv (ll (List.map rulesC A))), (1, AV.sv (ll (List.map rulesC B))), (5, AV.sv x0)]) []
 0 
def Z2x (A : List Rules) (B : List Rules) (k : Nat) : St := Zd5 A B (li (k : Int)) 
abbrev Z7k (A : List Rules) (B : List Rules) : Nat -> St -> Prop := Head (Z2x A B) (fun k => k <= List.length A /\ List.length A <= 9223372036854775807 /\ List.length A
 = List.length B /\ List.take k A = List.take k B) fun k => List.length A - k 
def Zc0 (A : List Rules) (B : List Rules) : St := St.mk (regsOf 27 []) [] 0 
def Z6p (A : List Rules) (B : List Rules) (x0 : SV) : St := St.mk (regsOf 27 [(4, AV.sv x0)]) [] 0 
def Zhx (A : List Rules) (B : List Rules) : List (Prop × AEx × St) := [(A = B, AEx.exit 0, Zc0 A B), (A ≠ B, AEx.ret, Z6p A B (lb false))]

theorem Zor {A : List Rules} {B : List Rules} {k : Nat} {x0 : SV} (h0 : x0 = (li (k : Int))) : Zd5 A B x0 = Z2x A B k := by
  rw [h0]
  rfl
theorem Zl6 {A : List Rules} {B : List Rules} {x0 y0 : SV} (h0 : x0 = y0) : Z6p A B x0 = Z6p A B y0 := by rw [h0]
theorem Zsc (A : List Rules) (B : List Rules) (k : Nat) : aexec Tryz.prog (loopAt Tryz.f90 0) (Z2x A B k) [.br [.draw [], .cells (rulesF (List.getD
 A k default)), .cells (rulesF (List.getD B k default)), .call [Mode.rd, Mode.rd] [] (AV.sv (lb (decide (List.getD A k default = List.getD B k default)))), .br [.ghost
 (.sel [] [4]), .out 1] [.ghost (.sel [] [0, 1, 5]), .goto (List.length A - (k + 1)) (Z2x A B (k + 1))]] [.ghost (.sel [] []), .out 0]]
 (loopK (Z7k A B) (Zhx A B) (List.length A - k)) = (List.length (List.map rulesC A) <= 9223372036854775807 -> (decide ((k : Int) < (↑(List.length (List.map
 rulesC A)) : Int)) = true -> (0 <= (k : Int) /\ (List.map rulesC A)[Int.toNat (k : Int)]? = some (rulesF (List.getD A k default))) /\ (0 <= (k : Int) /\ (List.map rulesC B)[Int.toNat
 (k : Int)]? = some (rulesF (List.getD B k default))) /\ Zra (List.getD A k default) (List.getD B k default) /\ ((!decide (List.getD A k default = List.getD B k default)) =
 true -> A ≠ B /\ Z6p A B (lb false) = Z6p A B (lb false)) /\ ((!decide (List.getD A k default = List.getD B k default)) = false -> rng .i64 ((k : Int) +
 1) /\ List.length A - (k + 1) < List.length A - k /\ Zd5 A B (li ((k : Int) + 1)) = Z2x A B (k + 1) /\ Z7k A B (List.length A - (k + 1)) (Z2x
 A B (k + 1)))) /\ (decide ((k : Int) < (↑(List.length (List.map rulesC A)) : Int)) = false -> A = B /\ Zc0 A B = Zc0 A B)) := by kernel_rfl
theorem Zww (A : List Rules) (B : List Rules)  : LoopSem Tryz.prog (loopAt Tryz.f90 0) (Z7k A B) (Zhx A B) := by
  refine LoopSem.ofHead wide fun k h => ⟨_, _, Zsc A B k, ?_⟩
  with_reducible repeat' (first | apply And.intro | exact flatI | exact flatS | exact rowLens | (intro; skip) | apply obsN | apply obsC | apply obA | apply obM | apply obB | apply svA | apply tupA | apply lcA | apply lcS | apply svC | apply liC | apply lbC | apply lsC | apply vIc | apply vBc | apply vSc | apply vLc | apply mapC | apply hdI | apply Zor | apply Zl6 | apply Zdo)
  all_goals (try simp only [std] at *)
  all_goals (try (first | with_reducible apply Zdo | (simp only [<- List.map_append]; first | with_reducible apply Zdo)))
  all_goals (try (first | with_reducible rfl | omega | assumption | exact dT ‹_› | exact dF ‹_› | ((first | refine rowGet ?_ | refine getC ?_ rfl); (first | omega | (simp only [std]; omega) | grind)) | (show (_ : St) = _; rfl) | grind [take_eq, getD_mem', snocI, snocS, rowSnoc]))
theorem Zva (A : List Rules) (B : List Rules) : aexec Tryz.prog (Tryz.f90.body.getD .skip) (entry [] [ll (List.map rulesC A), ll (List.map rulesC B)]
 27) [.br [.fin []] [.ghost (.sel [] [0, 1, 5]), .loop (List.length A - 0) (Z2x A B 0) (Z7k A B) [(A = B, AEx.exit 0, Zc0 A B,
 [.fin []]), (A ≠ B, AEx.ret, Z6p A B (lb false), [.fin []])]]] (finK Tryz.prog [ResultVar.tmp 4] [] (AV.sv (lb (decide (A = B))))) = (List.length (List.map rulesC
 A) <= 9223372036854775807 -> List.length (List.map rulesC B) <= 9223372036854775807 -> (decide ((↑(List.length (List.map rulesC A)) : Int) ≠ (↑(List.length (List.map rulesC B)) :
 Int)) = true -> ObsEq [] [] /\ AV.sv (lb false) = AV.sv (lb (decide (A = B)))) /\ (decide ((↑(List.length (List.map rulesC A)) : Int) ≠ (↑(List.length (List.map rulesC B)) : Int)) =
 false -> Zd5 A B (li 0) = Z2x A B 0 /\ Z7k A B (List.length A - 0) (Z2x A B 0) /\ LoopSem Tryz.prog (loopAt Tryz.f90 0) (Z7k A B)
 (Zhx A B) /\ (A = B -> ObsEq [] [] /\ AV.sv (lb true) = AV.sv (lb (decide (A = B)))) /\ ((A = B -> False) -> ObsEq [] [] /\ AV.sv (lb false) = AV.sv (lb (decide (A = B)))) /\
 True)) := by kernel_rfl
theorem Znz (A B : List Rules)  : Zqb A B := by
  refine CallOK.ofRun wide (Zva A B) Tryz.call90 Tryz.func90 rfl rfl rfl ?_
  with_reducible repeat' (first | apply And.intro | exact flatI | exact flatS | exact rowLens | (intro; skip) | apply obsN | apply obsC | apply obA | apply obM | apply obB | apply svA | apply tupA | apply lcA | apply lcS | apply svC | apply liC | apply lbC | apply lsC | apply vIc | apply vBc | apply vSc | apply vLc | apply mapC | apply hdI | apply Zor | apply Zww | apply Zl6 | apply Zdo)
  all_goals (try simp only [std] at *)
  all_goals (try (first | with_reducible apply Zdo | (simp only [<- List.map_append]; first | with_reducible apply Zdo)))
  all_goals (try (first | with_reducible rfl | omega | assumption | exact dT ‹_› | exact dF ‹_› | ((first | refine rowGet ?_ | refine getC ?_ rfl); (first | omega | (simp only [std]; omega) | grind)) | (show (_ : St) = _; rfl) | grind [snocI, snocS, rowSnoc]))
abbrev Z99 (x : Expander) (y : Expander) : Prop := CallOK Tryz.prog 24 [] [expanderA x, expanderA y] [] (.sv (lb (decide (x = y))))
theorem Zsd (x : Expander) (y : Expander) : aexec Tryz.prog (Tryz.f24.body.getD .skip) (entry [] [expanderA x, expanderA y] 32) [.call [Mode.rd,
 Mode.rd] [] (AV.sv (lb (decide (Expander.bindings x = Expander.bindings y)))), .br [.fin []] [.call [Mode.rd, Mode.rd] [] (AV.sv (lb (decide (Expander.macros x =
 Expander.macros y)))), .br [.fin []] [.br [.fin []] [.br [.fin []] [.br [.fin []] [.fin []]]]]]] (finK Tryz.prog [ResultVar.tmp 4] [] (AV.sv (lb (decide
 (x = y))))) = (Zn5 (Expander.bindings x) (Expander.bindings y) /\ ((!decide (Expander.bindings x = Expander.bindings y)) = true -> ObsEq [] [] /\ AV.sv (lb false) = AV.sv
 (lb (decide (x = y)))) /\ ((!decide (Expander.bindings x = Expander.bindings y)) = false -> Zqb (Expander.macros x) (Expander.macros y) /\ ((!decide (Expander.macros x =
 Expander.macros y)) = true -> ObsEq [] [] /\ AV.sv (lb false) = AV.sv (lb (decide (x = y)))) /\ ((!decide (Expander.macros x = Expander.macros y)) = false -> (decide (Expander.scope x
 ≠ Expander.scope y) = true -> ObsEq [] [] /\ AV.sv (lb false) = AV.sv (lb (decide (x = y)))) /\ (decide (Expander.scope x ≠ Expander.scope y) = false -> (decide (Expander.vari x ≠
 Expander.vari y) = true -> ObsEq [] [] /\ AV.sv (lb false) = AV.sv (lb (decide (x = y)))) /\ (decide (Expander.vari x ≠ Expander.vari y) = false -> (decide (Expander.steps x ≠
 Expander.steps y) = true -> ObsEq [] [] /\ AV.sv (lb false) = AV.sv (lb (decide (x = y)))) /\ (decide (Expander.steps x ≠ Expander.steps y) = false -> ObsEq [] [] /\ AV.sv (lb true) =
 AV.sv (lb (decide (x = y))))))))) := by kernel_rfl
theorem Zka (x y : Expander)  : Z99 x y := by
  refine CallOK.ofRun wide (Zsd x y) Tryz.call24 Tryz.func24 rfl rfl rfl ?_
  simp only [expanderExt]
  with_reducible repeat' (first | apply And.intro | exact flatI | exact flatS | exact rowLens | (intro; skip) | apply obsN | apply obsC | apply obA | apply obM | apply obB | apply svA | apply tupA | apply lcA | apply lcS | apply svC | apply liC | apply lbC | apply lsC | apply vIc | apply vBc | apply vSc | apply vLc | apply mapC | apply Zk9 | apply Znz)
  all_goals (try simp only [std] at *)
  all_goals (try (first | with_reducible apply Zk9 | with_reducible apply Znz | (simp only [<- List.map_append]; first | with_reducible apply Zk9 | with_reducible apply Znz)))
  all_goals (try (first | with_reducible rfl | omega | assumption | exact dT ‹_› | exact dF ‹_› | ((first | refine rowGet ?_ | refine getC ?_ rfl); (first | omega | (simp only [std]; omega) | grind)) | (show (_ : St) = _; rfl) | grind [bytes_ext, snocI, snocS, rowSnoc]))
end Go.Proofs.YtegbadciefljcaaGreat
end
section
namespace Go.Proofs.YtegbadciefljcaaGreat
open Go Go.Proofs.YtegbadciefljcaaGreat.Ab
set_option linter.unusedVariables false
set_option linter.unusedSimpArgs false
set_option maxHeartbeats 4000000
theorem bvL_c (x : Expander) (id : Syntax) : sumBy cB (bvL x id) <= 16 * wX x + 16 + 16 * wY id := by
  have h0 := wX_eq x
  have h1 := sumBy_le16 x.bindings fun y _ => cB_le y
  have h2 := cB_le ⟨id.text, id.scopes, 3, x.vari + 1⟩
  have h3 : wB ⟨id.text, id.scopes, 3, x.vari + 1⟩ = id.text.size + id.scopes.length := rfl
  have h4 := wY_eq id
  unfold bvL; split
  . rw [sumBy_append]; simp only [sumBy]; omega
  . omega
abbrev Z11d (x : Expander) (id : Syntax) : Prop := CallOK Tryz.prog 8 [] [expanderA x, syntaxA id] [] (.sv (lb true))
abbrev Z65 (x : Expander) (id : Syntax) := (Expander.mk (bvL x id) (Expander.macros x) (Expander.scope x) (bvV x id) (Expander.steps x) = Expander.mk (bvL x id)
 (Expander.macros x) (Expander.scope x) (bvV x id) (Expander.steps x))
abbrev Zb5 (x : Expander) (id : Syntax) := (seqM mkR cR (Expander.macros x) (1 + (↑(sumBy cB (bvL x id)) : Int)))
abbrev Zh9 (x : Expander) (id : Syntax) := (1 + (↑(sumBy cB (seqM mkB cB (bvL x id) 1)) : Int) + (↑(sumBy cR (Zb5 x id)) : Int) ≠ 1 + (↑(sumBy cB (bvL x id)) : Int) +
 (↑(sumBy cR (Expander.macros x)) : Int))
abbrev Z9c (x : Expander) (id : Syntax) := (Expander.mk (bvL x id) (Expander.macros x) (Expander.scope x) (bvV x id) (Expander.steps x))
abbrev Zl7 (x : Expander) (id : Syntax) := (AV.tup [SV.agg [AC.ref 0, AC.ref 1, vI (Expander.scope x), vI (bvV x id), vI (Expander.steps x)], li (bvN x id)])
theorem Z10r (x : Expander) (id : Syntax) : aexec Tryz.prog (Tryz.f8.body.getD .skip) (entry [] [expanderA x, syntaxA id] 119) [.call [Mode.rd, Mode.rd]
 [] (AV.sv (li (sz (wX x) 1048576))), .br [.fin []] [.call [Mode.rd, Mode.rd] [] (AV.sv (li (sz (wY id) (sz (wX x) 1048576)))), .br [.fin []] [.draw [(9, [26])],
 .call [Mode.rd] (expanderO x) (AV.sv (expanderR x 0)), .call [Mode.rd] (syntaxO id) (AV.sv (syntaxR id 0)), .call [Mode.rd, Mode.rd] [Ob.arr true 4 (List.map bindingC
 (bvL x id)), Ob.arr true 3 (List.map rulesC (Expander.macros x))] (Zl7 x id), .call [Mode.rd] (expanderO x) (AV.sv (expanderR x 0)), .call [Mode.rd] (syntaxO id)
 (AV.sv (syntaxR id 0)), .call [Mode.rd, Mode.rd] [Ob.arr true 4 (List.map bindingC (bvL x id)), Ob.arr true 3 (List.map rulesC (Expander.macros x))] (Zl7 x id), .call
 [Mode.rd, Mode.rd] [] (AV.sv (lb (decide (Z65 x id)))), .br [.bool true, .fin []] [.br [.fin []] [.draw [], .call [Mode.rd] (expanderO x) (AV.sv
 (expanderR x 0)), .call [Mode.rd, Mode.rd] [] (AV.sv (lb (decide (x = x)))), .br [.fin []] [.draw [], .call [Mode.rd] (syntaxO id) (AV.sv (syntaxR id 0)), .call
 [Mode.rd, Mode.rd] [] (AV.sv (lb (decide (id = id)))), .br [.fin []] [.call [Mode.agg [some (true, 4), some (true, 3), none, none, none], Mode.rd] [Ob.arr true 4
 (List.map bindingC (seqM mkB cB (Expander.bindings x) 1)), Ob.arr true 3 (List.map rulesC (seqM mkR cR (Expander.macros x) (1 + (↑(sumBy cB (Expander.bindings x)) : Int))))]
 (AV.sv (li (1 + (↑(sumBy cB (Expander.bindings x)) : Int) + (↑(sumBy cR (Expander.macros x)) : Int)))), .call [Mode.agg [none, none, none, some (true, 1), some (true, 5)],
 Mode.rd] [Ob.arr true 1 (List.map intC (seqM mkI cOne (Syntax.scopes id) (1 + (↑(sumBy cB (Expander.bindings x)) : Int) + (↑(sumBy cR (Expander.macros x)) : Int)))), Ob.arr true 5
 (List.map syntaxC (seqM mkY cY (Syntax.items id) (1 + (↑(sumBy cB (Expander.bindings x)) : Int) + (↑(sumBy cR (Expander.macros x)) : Int) + (↑(List.length (Syntax.scopes id)) :
 Int))))] (AV.sv (li (1 + (↑(sumBy cB (Expander.bindings x)) : Int) + (↑(sumBy cR (Expander.macros x)) : Int) + (↑(List.length (Syntax.scopes id)) : Int) + (↑(sumBy cY
 (Syntax.items id)) : Int)))), .bool false, .call [Mode.rd, Mode.rd] [] (AV.sv (lb (decide (Z65 x id)))), .br [.bool true, .fin []] [.br [.fin []]
 [.call [Mode.agg [some (true, 4), some (true, 3), none, none, none], Mode.rd] [Ob.arr true 4 (List.map bindingC (seqM mkB cB (bvL x id) 1)), Ob.arr true 3 (List.map rulesC
 (Zb5 x id))] (AV.sv (li (1 + (↑(sumBy cB (bvL x id)) : Int) + (↑(sumBy cR (Expander.macros x)) : Int)))), .call [Mode.rd, Mode.rd] [] (AV.sv (li (1 + (↑(sumBy cB (seqM
 mkB cB (bvL x id) 1)) : Int) + (↑(sumBy cR (Zb5 x id)) : Int)))), .bool false, .br [.fin []] [.draw [(9, [64])], .call [Mode.rd] (expanderO x) (AV.sv
 (expanderR x 0)), .call [Mode.rd] (syntaxO id) (AV.sv (syntaxR id 0)), .call [Mode.rd, Mode.rd] [Ob.arr true 4 (List.map bindingC (bvL x id)), Ob.arr true 3 (List.map rulesC
 (Expander.macros x))] (Zl7 x id), .call [Mode.rd, Mode.rd] [] (AV.sv (lb (decide (Z65 x id)))), .br [.bool true, .fin []] [.br [.fin []] [.call
 [Mode.rd, Mode.rd] [] (AV.sv (li (1 + (↑(sumBy cB (seqM mkB cB (bvL x id) 1)) : Int) + (↑(sumBy cR (Zb5 x id)) : Int)))), .bool false, .br [.fin []] [.fin
 []]]]]]]]]]]]]] (finK Tryz.prog [ResultVar.tmp 4] [] (AV.sv (lb true))) = (Zn1 x 1048576 /\ (decide (sz (wX x) (1048576 : Int) < 0) = true -> ObsEq [] [] /\ AV.sv (lb
 true) = AV.sv (lb true)) /\ (decide (sz (wX x) (1048576 : Int) < 0) = false -> Z4p id (sz (wX x) 1048576) /\ (decide (sz (wY id) (sz (wX x) 1048576) < 0) = true -> ObsEq []
 [] /\ AV.sv (lb true) = AV.sv (lb true)) /\ (decide (sz (wY id) (sz (wX x) 1048576) < 0) = false -> Z97 x /\ Z1s id /\ Zrv x id /\ Z97 x /\
 Z1s id /\ Znr x id /\ Z99 (Z9c x id) (Z9c x id) /\ ((!decide (Z65 x id)) = true -> true = true /\ ObsEq [] [] /\ AV.sv (lb false) = AV.sv
 (lb true)) /\ ((!decide (Z65 x id)) = false -> (decide (bvN x id ≠ bvN x id) = true -> ObsEq [] [] /\ AV.sv (lb false) = AV.sv (lb true)) /\ (decide (bvN x id ≠ bvN x id) = false
 -> Z97 x /\ Z99 x x /\ ((!decide (x = x)) = true -> ObsEq [] [] /\ AV.sv (lb false) = AV.sv (lb true)) /\ ((!decide (x = x)) = false -> Z1s id /\
 Z4r id id /\ ((!decide (id = id)) = true -> ObsEq [] [] /\ AV.sv (lb false) = AV.sv (lb true)) /\ ((!decide (id = id)) = false -> Zdb x 1 /\ Zmv id (1 +
 (↑(sumBy cB (Expander.bindings x)) : Int) + (↑(sumBy cR (Expander.macros x)) : Int)) /\ false = false /\ Z99 (Z9c x id) (Z9c x id) /\ ((!decide (Z65 x
 id)) = true -> true = true /\ ObsEq [] [] /\ AV.sv (lb false) = AV.sv (lb true)) /\ ((!decide (Z65 x id)) = false -> (decide (bvN x id ≠ bvN x id) = true -> ObsEq [] [] /\ AV.sv
 (lb false) = AV.sv (lb true)) /\ (decide (bvN x id ≠ bvN x id) = false -> Zdb (Z9c x id) 1 /\ Zdc (Expander.mk (seqM mkB cB (bvL x id) 1) (Zb5 x
 id) (Expander.scope x) (bvV x id) (Expander.steps x)) 1 /\ false = false /\ (decide (Zh9 x id) = true -> ObsEq [] [] /\ AV.sv (lb false) = AV.sv (lb true)) /\ (decide (Zh9
 x id) = false -> Z97 x /\ Z1s id /\ Znr x id /\ Z99 (Z9c x id) (Z9c x id) /\ ((!decide (Z65 x id)) = true -> true = true /\ ObsEq
 [] [] /\ AV.sv (lb false) = AV.sv (lb true)) /\ ((!decide (Z65 x id)) = false -> (decide (bvN x id ≠ bvN x id) = true -> ObsEq [] [] /\ AV.sv (lb false) = AV.sv (lb true)) /\
 (decide (bvN x id ≠ bvN x id) = false -> Zdc (Expander.mk (seqM mkB cB (bvL x id) 1) (Zb5 x id) (Expander.scope x) (bvV x id) (Expander.steps x)) 1 /\ false =
 false /\ (decide (Zh9 x id) = true -> ObsEq [] [] /\ AV.sv (lb false) = AV.sv (lb true)) /\ (decide (Zh9 x id) = false -> ObsEq [] [] /\ AV.sv (lb true) = AV.sv (lb
 true)))))))))))))) := by kernel_rfl
theorem Z11i (x : Expander) (id : Syntax)  : Z11d x id := by
  refine CallOK.ofRun wide (Z10r x id) Tryz.call8 Tryz.func8 rfl rfl rfl ?_
  try delta Z65 Zb5 Zh9 Z9c Zl7
  have h0 := wX_eq x
  have h1 := sumBy_le16 x.bindings fun y _ => cB_le y
  have h2 := sumBy_le16 x.macros fun y _ => cR_le y
  have h3 := bvL_c x id
  have h4 := cY_le id
  have h5 := cY_eq id
  with_reducible repeat' (first | apply And.intro | exact flatI | exact flatS | exact rowLens | (intro; skip) | apply obsN | apply obsC | apply obA | apply obM | apply obB | apply svA | apply tupA | apply lcA | apply lcS | apply svC | apply liC | apply lbC | apply lsC | apply vIc | apply vBc | apply vSc | apply vLc | apply mapC | apply Zk4 | apply Zbv | apply Zk7 | apply Zbx | apply Zka | apply Zbz | apply Zuz | apply Zrt | apply Zfo | apply Zjv | apply Zfq)
  all_goals (try simp only [std, stdM] at *)
  all_goals (try (first | with_reducible apply Zk4 | with_reducible apply Zbv | with_reducible apply Zk7 | with_reducible apply Zbx | with_reducible apply Zka | with_reducible apply Zbz | with_reducible apply Zuz | with_reducible apply Zrt | with_reducible apply Zfo | with_reducible apply Zjv | with_reducible apply Zfq | (simp only [<- List.map_append]; first | with_reducible apply Zk4 | with_reducible apply Zbv | with_reducible apply Zk7 | with_reducible apply Zbx | with_reducible apply Zka | with_reducible apply Zbz | with_reducible apply Zuz | with_reducible apply Zrt | with_reducible apply Zfo | with_reducible apply Zjv | with_reducible apply Zfq)))
  all_goals (try (first | with_reducible rfl | omega | assumption | exact dT ‹_› | exact dF ‹_› | ((first | refine rowGet ?_ | refine getC ?_ rfl); (first | omega | (simp only [std, stdM]; omega) | grind)) | (refine fill_step ?_ ?_; (first | omega | (simp only [std, stdM]; omega) | grind); (first | rfl | exact (Row.eq _).trans rfl)) | (refine fill_init ?_; (first | rfl | exact (Row.eq _).trans rfl)) | (refine set_row ?_; (simp only [List.length_map, List.length_set, mkTo_len]; omega)) | (refine mkToRow ?_; (first | omega | (simp only [std, stdM]; omega) | grind)) | (refine mkTo_row ?_ rfl; (first | omega | (simp only [std, stdM]; omega) | grind)) | (refine mkTo_step ?_ ?_; (first | omega | (simp only [std, stdM]; omega) | grind); (first | grind [sz, seqM_idem, seqM_len, sum_seqM, snocI, snocS, rowSnoc])) | (show (_ : St) = _; rfl) | grind [sz, seqM_idem, seqM_len, sum_seqM, snocI, snocS, rowSnoc]))
end Go.Proofs.YtegbadciefljcaaGreat
end
section
namespace Go.Proofs.YtegbadciefljcaaGreat.fnExactBindVariable
open Go Go.ChangeShapes Go.WideShapes Go.ChangeAt Go.RowKit Go.Proofs.YtegbadciefljcaaGreat.Ab
set_option linter.unusedVariables false
theorem own : ownKnob Tryz.prog.godebug = none := by kernel_rfl
theorem laid : laidOutB Tryz.prog = true := by kernel_rfl
theorem rowed : mapsRowed Tryz.prog = true := by kernel_rfl
theorem sized : ((List.range Tryz.prog.types.size).all fun t => match Tryz.prog.underlying t with | some (.slice e) => decide (0 < Tryz.prog.cellsOf e) | _ => true) = true := by kernel_rfl
set_option maxRecDepth 100000 in
theorem lifted (os : Os) (started : os.Started) (H : Type) (enc : TypeId × Value -> H) :
    ReturnsInHanded {} Tryz.checked os 8 .any (Rows.fnExactBindVariableSpec.pre6 enc Tryz.prog Tryz.f8 Rows.fnExactBindVariableRow.domain false) (Rows.fnExactBindVariableSpec.post enc Tryz.prog Tryz.f8 false true false false) := by
  refine returnsInHanded_of_change (C := Tryz.checked) own started (by kernel_rfl) Tryz.func8
    (ChangeSpec.witness6 (enc := enc) (C := Tryz.checked) false ⟨#[], #[.agg #[.slice none 0 0, .slice none 0 0, .int .i64 0, .int .i64 0, .int .i64 0], .agg #[.int .i64 0, .int .i64 0, .string ⟨#[]⟩, .slice none 0 0, .slice none 0 0]], []⟩ 12 (by kernel_rfl) (by kernel_rfl) (by kernel_rfl) (by kernel_rfl)) ?_
  intro W base args ds gs before hval0 hW hcnd _
  have hval : ∀ (j : Nat) t v, Tryz.f8.params[j]? = some t -> args[j]? = some v -> Value.okWide Tryz.prog W .any base t v := hval0
  have hW' := hW
  obtain ⟨p, q, hA0, hV, rfl, hfz, hnd⟩ := hW
  obtain ⟨rfl, rfl⟩ := trodVars_none hV
  have hA : DataW.TrodAll enc Tryz.prog W 0 (fun _ => true) true Tryz.f8.params.toList args.toList ds p := hA0
  rw [Tryz.params8] at hA hval
  have hA2 := hA
  clear hA0 hval0
  obtain ⟨v0, vs0, d0, ds0, p0, q0, hargs0, rfl, rfl, h0, r0⟩ := trodAll_cons hA
  obtain ⟨v1, vs1, d1, ds1, p1, q1, hargs1, rfl, rfl, h1, r1⟩ := trodAll_cons r0
  obtain ⟨rfl, rfl, rfl⟩ := trodAll_nil r1
  obtain rfl : args = #[v0, v1] := by cases args; simp_all
  obtain ⟨a0, c0⟩ := (let ⟨fuel, hf⟩ := h0; rd_expander fuel _ _ hf)
  have s0 : SVRel W (allI W) (obOf []) (expanderA a0) v0 := agg_rel (let ⟨cs, h, _⟩ := okWide_struct Tryz.underlying43 (hval 0 43 v0 rfl rfl); ⟨cs, h⟩) c0
  obtain ⟨a1, c1⟩ := (let ⟨fuel, hf⟩ := h1; rd_syntax fuel _ _ hf)
  have s1 : SVRel W (allI W) (obOf []) (syntaxA a1) v1 := agg_rel (let ⟨cs, h, _⟩ := okWide_struct Tryz.underlying55 (hval 1 55 v1 rfl rfl); ⟨cs, h⟩) c1
  refine (CallOK.kept (w := W) (vals := #[v0, v1]) (Z11i a0 a1) ⟨s0, s1, trivial⟩).mono fun e W' ⟨he, hg, _⟩ => ?_
  subst he
  exact ⟨_, rfl, post_of_kept (pv := []) hW' (fun _ _ _ => (trodAll_cons_mk (shut_bool Tryz.underlying4 _) trodAll_mk0))
    (fun sp hsp => trodAll_kept laid rowed sized hg (by decide +kernel) hA2 fun y hy => hsp y (by simpa using hy)) (fun _ _ => rfl) rfl
    hg (ok_one (by kernel_rfl) rfl (okWide_bool_mk Tryz.underlying4 _))⟩
set_option maxRecDepth 100000 in
set_option maxHeartbeats 0 in
theorem facts : joinedFacts Tryz.pinned.checked.prog 8 Tryz.f8 Rows.fnExactBindVariableSpec Rows.fnExactBindVariableRow = true := by
  delta joinedFacts
  with_reducible repeat' apply and_i
  all_goals (first | with_reducible exact enters | (rw [makes]; kernel_rfl) | (rw [lifts]; kernel_rfl) | decide +kernel)
theorem over : Rows.fnExactBindVariableRow.holds Tryz.pinned (OpenSpec.ofChange Rows.fnExactBindVariableSpec) :=
  OpenClaim.holds_of_wide 8 Tryz.f8 rfl rfl rfl rfl rfl rfl rfl ⟨rfl, rfl, rfl, rfl, rfl⟩ rfl rfl rfl rfl rfl (by kernel_rfl) Tryz.func8 facts
    (of_decide_eq_true (by kernel_rfl)) (by unfold Func.isWrapper; first | (rw [if_pos (by decide +kernel)]; kernel_rfl) | (rw [if_neg (by decide +kernel)]; exact ⟨rfl, rfl⟩))
    (fun os started H enc _ => lifted os started H enc)
theorem proved : Rows.FnExactBindVariableSaid :=
  over
end Go.Proofs.YtegbadciefljcaaGreat.fnExactBindVariable
end
