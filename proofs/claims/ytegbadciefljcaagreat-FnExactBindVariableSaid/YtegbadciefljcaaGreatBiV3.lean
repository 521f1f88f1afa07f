/- Part 3 of the proof: The program's BindVariable returns what the reference's returns, for all arguments. No condition. -/
import Derived.Test.YtegbadciefljcaaGreatBiV2
section
namespace Go.Proofs.YtegbadciefljcaaGreat
open Go Go.Proofs.YtegbadciefljcaaGreat.Ab
set_option linter.unusedVariables false
set_option linter.unusedSimpArgs false
set_option maxHeartbeats 4000000
theorem fx_at {α : Type} [Inhabited α] {p : α -> Bool} {L : List α} {k : Nat} (hk : k < L.length) (hb : k <= L.findIdx p) (h : p (L.getD k default) = true) : L.findIdx p = k := by
  have h1 : L.getD k default = L[k] := by simp [hk]
  rw [h1] at h
  rcases Nat.lt_or_ge k (L.findIdx p) with h2 | h2
  . have := List.not_of_lt_findIdx h2
    simp [h] at this
  . omega
theorem fx_next {α : Type} [Inhabited α] {p : α -> Bool} {L : List α} {k : Nat} (hk : k < L.length) (hb : k <= L.findIdx p) (h : p (L.getD k default) = false) : k + 1 <= L.findIdx p := by
  have h1 : L.getD k default = L[k] := by simp [hk]
  rw [h1] at h
  rcases Nat.lt_or_ge k (L.findIdx p) with h2 | h2
  . exact h2
  . have e : L.findIdx p = k := by omega
    have h3 := List.findIdx_getElem (p := p) (xs := L) (w := by omega)
    simp only [e, h] at h3
    exact absurd h3 (by decide)
abbrev Zpd (L : List Int) : Prop := CallOK Tryz.prog 134 [] [ll (L.map intC)] [.arr true 1 (L.map intC)] (.sv (.one (.ref 0)))
theorem Zz6 (L : List Int) : aexec Tryz.prog (Tryz.f134.body.getD .skip) (entry [] [ll (List.map intC L)] 6) [.bool false, .fin [1]] (finK Tryz.prog
 [ResultVar.tmp 2] [Ob.arr true 1 (List.map intC L)] (AV.sv (SV.one (AC.ref 0)))) = ((∀ (e : List Cell), e ∈ List.map intC L -> ∀ (c : Cell), c ∈ e -> ∃ v, c = Cell.lit v) /\ (∀ (e :
 List Cell), e ∈ List.map intC L -> List.length e = 1) /\ (0 + List.length (List.map intC L)) * 8 <= 140737488355328 /\ ObsEq [Ob.arr true 1 (List.map intC L)] [Ob.arr true 1 (List.map
 intC L)] /\ AV.sv (SV.one (AC.ref 0)) = AV.sv (SV.one (AC.ref 0))) := by kernel_rfl
theorem Z73 (L : List Int) (h : L.length <= 2147483647)  : Zpd L := by
  refine CallOK.ofRun wide (Zz6 L) Tryz.call134 Tryz.func134 rfl rfl rfl ?_
  with_reducible repeat' (first | apply And.intro | exact flatI | exact flatS | exact rowLens | (intro; skip) | apply obsN | apply obsC | apply obA | apply obM | apply obB | apply svA | apply tupA | apply lcA | apply lcS | apply svC | apply liC | apply lbC | apply lsC | apply vIc | apply vBc | apply vSc | apply vLc | apply mapC)
  all_goals (try simp only [std] at *)
  all_goals (try (first | with_reducible rfl | omega | assumption | exact dT ‹_› | exact dF ‹_› | ((first | refine rowGet ?_ | refine getC ?_ rfl); (first | omega | (simp only [std]; omega) | grind)) | (show (_ : St) = _; rfl) | grind [snocI, snocS, rowSnoc]))
abbrev Ze4 (L : List Int) : Prop := CallOK Tryz.prog 146 [] [ll (L.map intC)] [.arr true 1 (L.map intC)] (.sv (.one (.ref 0)))
theorem Zxh (L : List Int) : aexec Tryz.prog (Tryz.f146.body.getD .skip) (entry [] [ll (List.map intC L)] 5) [.bool true, .fin [0]] (finK Tryz.prog
 [ResultVar.tmp 2] [Ob.arr true 1 (List.map intC L)] (AV.sv (SV.one (AC.ref 0)))) = ((∀ (e : List Cell), e ∈ List.map intC L -> ∀ (c : Cell), c ∈ e -> ∃ v, c = Cell.lit v) /\ (∀ (e :
 List Cell), e ∈ List.map intC L -> List.length e = 1) /\ (0 + List.length (List.map intC L)) * 8 <= 140737488355328 /\ ObsEq [Ob.arr true 1 (List.map intC L)] [Ob.arr true 1 (List.map
 intC L)] /\ AV.sv (SV.one (AC.ref 0)) = AV.sv (SV.one (AC.ref 0))) := by kernel_rfl
theorem Z5e (L : List Int) (h : L.length <= 2147483647)  : Ze4 L := by
  refine CallOK.ofRun wide (Zxh L) Tryz.call146 Tryz.func146 rfl rfl rfl ?_
  with_reducible repeat' (first | apply And.intro | exact flatI | exact flatS | exact rowLens | (intro; skip) | apply obsN | apply obsC | apply obA | apply obM | apply obB | apply svA | apply tupA | apply lcA | apply lcS | apply svC | apply liC | apply lbC | apply lsC | apply vIc | apply vBc | apply vSc | apply vLc | apply mapC)
  all_goals (try simp only [std] at *)
  all_goals (try (first | with_reducible rfl | omega | assumption | exact dT ‹_› | exact dF ‹_› | ((first | refine rowGet ?_ | refine getC ?_ rfl); (first | omega | (simp only [std]; omega) | grind)) | (show (_ : St) = _; rfl) | grind [snocI, snocS, rowSnoc]))
abbrev Zd8 (s : Syntax) : Prop := CallOK Tryz.prog 226 [] [syntaxA s, li 0, li 0] (syntaxO s) (.sv (syntaxR s 0))
def Zc7 (s : Syntax) (x0 : SV) (x1 : Ob) : St := St.mk (regsOf 62 [(1, AV.sv (li 0)), (2, AV.sv (li 0)), (6, AV.sv (SV.one (AC.ptr 0 0))), (7, AV.sv (SV.one (AC.ptr 1 0))),
 (45, AV.sv (ll (List.map syntaxC (Syntax.items s)))), (46, AV.sv (li (↑(List.length (List.map syntaxC (Syntax.items s))) : Int))), (47, AV.sv x0)]) [Ob.box [vI 0, vI 0, vS
 (ByteArray.mk #[]), AC.val (Cell.lit (Value.slice none 0 0)), AC.val (Cell.lit (Value.slice none 0 0))], Ob.box [vI (Syntax.kind s), vI (Syntax.number s), vS (Syntax.text s),
 AC.ref 2, AC.ref 3], Ob.arr true 1 (List.map intC (Syntax.scopes s)), x1] 0 
def Z1v (s : Syntax) (k : Nat) : St := Zc7 s (li (k : Int)) (Ob.arr true 5 (List.map syntaxC (List.take k (Syntax.items s)))) 
abbrev Z47 (s : Syntax) : Nat -> St -> Prop := Head (Z1v s) (fun k => k <= List.length (Syntax.items s) /\ List.length (Syntax.items s) <= 9223372036854775807) fun k =>
 List.length (Syntax.items s) - k 
def Z6v (s : Syntax) (x0 : Ob) : St := St.mk (regsOf 62 [(6, AV.sv (SV.one (AC.ptr 0 0))), (7, AV.sv (SV.one (AC.ptr 1 0)))]) [Ob.box [vI 0, vI 0, vS (ByteArray.mk #[]),
 AC.val (Cell.lit (Value.slice none 0 0)), AC.val (Cell.lit (Value.slice none 0 0))], Ob.box [vI (Syntax.kind s), vI (Syntax.number s), vS (Syntax.text s), AC.ref 2, AC.ref 3],
 Ob.arr true 1 (List.map intC (Syntax.scopes s)), x0] 0 
def Zg5 (s : Syntax) : List (Prop × AEx × St) := [(True, AEx.exit 1, Z6v s (Ob.arr true 5 (List.map syntaxC (Syntax.items s))))]

theorem Zqt {s : Syntax} {k : Nat} {x0 : SV} {x1 : Ob} (h0 : x0 = (li (k : Int))) (h1 : x1 = (Ob.arr true 5 (List.map syntaxC (List.take k (Syntax.items s))))) :
 Zc7 s x0 x1 = Z1v s k := by
  rw [h0, h1]
  rfl
theorem Zo3 {s : Syntax} {x0 y0 : Ob} (h0 : x0 = y0) : Z6v s x0 = Z6v s y0 := by rw [h0]
theorem Zu8 (s : Syntax) (k : Nat) : aexec Tryz.prog (loopAt Tryz.f226 0) (Z1v s k) [.br [.cells (syntaxF (List.getD (Syntax.items s) k default)), .draw
 [(6, [5, 6]), (7, [3, 13]), (9, [1])], .call [Mode.rd, Mode.rd, Mode.rd] (syntaxO (List.getD (Syntax.items s) k default)) (AV.sv (syntaxR (List.getD (Syntax.items s) k default)
 0)), .ghost (.sel [0, 1, 2, 14] [1, 2, 6, 7, 45, 46, 47]), .goto (List.length (Syntax.items s) - (k + 1)) (Z1v s (k + 1))] [.ghost (.sel [0, 1, 2, 3]
 [6, 7]), .out 0]] (loopK (Z47 s) (Zg5 s) (List.length (Syntax.items s) - k)) = ((decide ((k : Int) < (↑(List.length (List.map syntaxC (Syntax.items s))) :
 Int)) = true -> (0 <= (k : Int) /\ (List.map syntaxC (Syntax.items s))[Int.toNat (k : Int)]? = some (syntaxF (List.getD (Syntax.items s) k default))) /\ Zd8 (List.getD
 (Syntax.items s) k default) /\ (List.length (List.map syntaxC (List.take k (Syntax.items s))) + 1) * 80 <= 140737488355328 /\ rng .i64 ((k : Int) + 1) /\ List.length
 (Syntax.items s) - (k + 1) < List.length (Syntax.items s) - k /\ Zc7 s (li ((k : Int) + 1)) (Ob.arr true 5 (List.map syntaxC (List.take k (Syntax.items s)) ++ [syntaxF
 (List.getD (Syntax.items s) k default)])) = Z1v s (k + 1) /\ Z47 s (List.length (Syntax.items s) - (k + 1)) (Z1v s (k + 1))) /\ (decide ((k : Int) <
 (↑(List.length (List.map syntaxC (Syntax.items s))) : Int)) = false -> True /\ Z6v s (Ob.arr true 5 (List.map syntaxC (List.take k (Syntax.items s)))) = Z6v s
 (Ob.arr true 5 (List.map syntaxC (Syntax.items s))))) := by kernel_rfl
theorem Zz7 (s : Syntax) (h : wY s <= 1048576) (ih : ∀ (z : Syntax), z ∈ Syntax.items s -> wY z <= 1048576 -> Zd8 z)  : LoopSem Tryz.prog (loopAt Tryz.f226 0) (Z47
 s) (Zg5 s) := by
  refine LoopSem.ofHead wide fun k h => ⟨_, _, Zu8 s k, ?_⟩
  have g1 := wY_eq s
  have g2 := @sumBy_mem _ wY s.items (s.items.getD k default)
  with_reducible repeat' (first | apply And.intro | exact flatI | exact flatS | exact rowLens | exact ih | (intro; skip) | apply obsN | apply obsC | apply obA | apply obM | apply obB | apply svA | apply tupA | apply lcA | apply lcS | apply svC | apply liC | apply lbC | apply lsC | apply vIc | apply vBc | apply vSc | apply vLc | apply mapC | apply hdI | apply Zqt | apply Zo3 | apply Z73 | apply ih)
  all_goals (try simp only [std] at *)
  all_goals (try (first | with_reducible apply Z73 | with_reducible apply ih | (simp only [<- List.map_append]; first | with_reducible apply Z73 | with_reducible apply ih)))
  all_goals (try (first | with_reducible rfl | omega | assumption | exact dT ‹_› | exact dF ‹_› | ((first | refine rowGet ?_ | refine getC ?_ rfl); (first | omega | (simp only [std]; omega) | grind)) | (show (_ : St) = _; rfl) | grind [take_get, getD_mem', snocI, snocS, rowSnoc, getD_mem']))
abbrev Zlb (s : Syntax) := (True → ObsEq [Ob.arr true 1 (List.map intC (Syntax.scopes s)), Ob.arr true 5 (List.map syntaxC (Syntax.items s))] [Ob.arr true 1 (List.map intC
 (Syntax.scopes s)), Ob.arr true 5 (List.map syntaxC (Syntax.items s))] ∧ AV.sv (SV.agg [vI (Syntax.kind s), vI (Syntax.number s), vS (Syntax.text s), AC.ref 0, AC.ref 1]) = AV.sv
 (SV.agg [vI (Syntax.kind s), vI (Syntax.number s), vS (Syntax.text s), AC.ref 0, AC.ref 1]))
theorem Zxi (s : Syntax) : aexec Tryz.prog (Tryz.f226.body.getD .skip) (entry [] [syntaxA s, li 0, li 0] 62) [.draw [(11, [10])], .call [Mode.rd]
 [Ob.arr true 1 (List.map intC (Syntax.scopes s))] (AV.sv (SV.one (AC.ref 0))), .br [.bool false, .bool false, .bool false, .ghost (.nilbox 10 4 true 5),
 .ghost (.sel [1, 10, 2, 11] [1, 2, 6, 7, 45, 46, 47]), .loop (List.length (Syntax.items s) - 0) (Z1v s 0) (Z47 s) [(True, AEx.exit 1, Z6v s
 (Ob.arr true 5 (List.map syntaxC (Syntax.items s))), [.fin [2, 3]])]] [.ghost (.nilbox 10 4 true 5), .ghost (.sel [1, 10, 2, 11] [1, 2, 6, 7, 45, 46, 47]),
 .loop (List.length (Syntax.items s) - 0) (Z1v s 0) (Z47 s) [(True, AEx.exit 1, Z6v s (Ob.arr true 5 (List.map syntaxC (Syntax.items s))), [.fin [2,
 3]])]]] (finK Tryz.prog [ResultVar.cell 6 66] (syntaxO s) (AV.sv (syntaxR s 0))) = (Zpd (Syntax.scopes s) /\ (decide (Syntax.kind s = 1) = true -> false = false /\ false =
 false /\ false = false /\ (List.length (List.map syntaxC (Syntax.items s)) <= 9223372036854775807 -> Zc7 s (li 0) (Ob.arr true 5 []) = Z1v s 0 /\ Z47 s
 (List.length (Syntax.items s) - 0) (Z1v s 0) /\ LoopSem Tryz.prog (loopAt Tryz.f226 0) (Z47 s) (Zg5 s) /\ (Zlb s) /\ True)) /\ (decide (Syntax.kind s =
 1) = false -> List.length (List.map syntaxC (Syntax.items s)) <= 9223372036854775807 -> Zc7 s (li 0) (Ob.arr true 5 []) = Z1v s 0 /\ Z47 s (List.length
 (Syntax.items s) - 0) (Z1v s 0) /\ LoopSem Tryz.prog (loopAt Tryz.f226 0) (Z47 s) (Zg5 s) /\ (Zlb s) /\ True)) := by kernel_rfl
theorem Z118 (s : Syntax) (h : wY s <= 1048576) (ih : ∀ z ∈ s.items, ∀ (h : wY z <= 1048576), Zd8 z)  : Zd8 s := by
  refine CallOK.ofRun wide (Zxi s) Tryz.call226 Tryz.func226 rfl rfl rfl ?_
  try delta Zlb
  have g1 := wY_eq s
  with_reducible repeat' (first | apply And.intro | exact flatI | exact flatS | exact rowLens | exact ih | (intro; skip) | apply obsN | apply obsC | apply obA | apply obM | apply obB | apply svA | apply tupA | apply lcA | apply lcS | apply svC | apply liC | apply lbC | apply lsC | apply vIc | apply vBc | apply vSc | apply vLc | apply mapC | apply hdI | apply Zqt | apply Zz7 | apply Zo3 | apply Z73)
  all_goals (try simp only [std] at *)
  all_goals (try (first | with_reducible apply Z73 | with_reducible apply ih | (simp only [<- List.map_append]; first | with_reducible apply Z73 | with_reducible apply ih)))
  all_goals (try (first | with_reducible rfl | omega | assumption | exact dT ‹_› | exact dF ‹_› | ((first | refine rowGet ?_ | refine getC ?_ rfl); (first | omega | (simp only [std]; omega) | grind)) | (show (_ : St) = _; rfl) | grind [snocI, snocS, rowSnoc]))
theorem Zxj (s : Syntax) : ∀ (h : wY s <= 1048576), Zd8 s := Syntax.ind (P := fun s => ∀ (h : wY s <= 1048576), Zd8 s) (fun s ih h => Z118 s h ih) s
abbrev Ze5 (s : Syntax) : Prop := CallOK Tryz.prog 172 [] [syntaxA s] (syntaxO s) (.sv (syntaxR s 0))
theorem Zxk (s : Syntax) : aexec Tryz.prog (Tryz.f172.body.getD .skip) (entry [] [syntaxA s] 5) [.call [Mode.rd, Mode.rd, Mode.rd] (syntaxO s) (AV.sv
 (syntaxR s 0)), .fin [2, 3]] (finK Tryz.prog [ResultVar.cell 2 66] (syntaxO s) (AV.sv (syntaxR s 0))) = (Zd8 s /\ ObsEq [Ob.arr true 1 (List.map intC (Syntax.scopes s)),
 Ob.arr true 5 (List.map syntaxC (Syntax.items s))] [Ob.arr true 1 (List.map intC (Syntax.scopes s)), Ob.arr true 5 (List.map syntaxC (Syntax.items s))] /\ AV.sv (SV.agg [vI
 (Syntax.kind s), vI (Syntax.number s), vS (Syntax.text s), AC.ref 0, AC.ref 1]) = AV.sv (SV.agg [vI (Syntax.kind s), vI (Syntax.number s), vS (Syntax.text s), AC.ref 0, AC.ref
 1])) := by kernel_rfl
theorem Z1g (s : Syntax) (h : wY s <= 1048576)  : Ze5 s := by
  refine CallOK.ofRun wide (Zxk s) Tryz.call172 Tryz.func172 rfl rfl rfl ?_
  with_reducible repeat' (first | apply And.intro | exact flatI | exact flatS | exact rowLens | (intro; skip) | apply obsN | apply obsC | apply obA | apply obM | apply obB | apply svA | apply tupA | apply lcA | apply lcS | apply svC | apply liC | apply lbC | apply lsC | apply vIc | apply vBc | apply vSc | apply vLc | apply mapC | apply Zxj)
  all_goals (try simp only [std] at *)
  all_goals (try (first | with_reducible apply Zxj | (simp only [<- List.map_append]; first | with_reducible apply Zxj)))
  all_goals (try (first | with_reducible rfl | omega | assumption | exact dT ‹_› | exact dF ‹_› | ((first | refine rowGet ?_ | refine getC ?_ rfl); (first | omega | (simp only [std]; omega) | grind)) | (show (_ : St) = _; rfl) | grind [snocI, snocS, rowSnoc]))
def fnA (f : FuncId) : SV := .one (.val (.lit (.func (.func f) #[] #[])))
abbrev Zd9 (s : Syntax) : Prop := CallOK Tryz.prog 230 [] [syntaxA s, fnA 146] (syntaxO s) (.sv (syntaxR s 0))
def Zc8 (s : Syntax) (x0 : SV) (x1 : Ob) : St := St.mk (regsOf 43 [(1, AV.sv (SV.one (AC.val (Cell.lit (Value.func (Fn.func 146) #[] #[]))))), (4, AV.sv (SV.one (AC.ptr 0
 0))), (5, AV.sv (SV.one (AC.ptr 1 0))), (27, AV.sv (ll (List.map syntaxC (Syntax.items s)))), (28, AV.sv (li (↑(List.length (List.map syntaxC (Syntax.items s))) : Int))), (29,
 AV.sv x0)]) [Ob.box [vI 0, vI 0, vS (ByteArray.mk #[]), AC.val (Cell.lit (Value.slice none 0 0)), AC.val (Cell.lit (Value.slice none 0 0))], Ob.box [vI (Syntax.kind s), vI
 (Syntax.number s), vS (Syntax.text s), AC.ref 2, AC.ref 3], Ob.arr true 1 (List.map intC (Syntax.scopes s)), x1] 0 
def Z1w (s : Syntax) (k : Nat) : St := Zc8 s (li (k : Int)) (Ob.arr true 5 (List.map syntaxC (List.take k (Syntax.items s)))) 
abbrev Z48 (s : Syntax) : Nat -> St -> Prop := Head (Z1w s) (fun k => k <= List.length (Syntax.items s) /\ List.length (Syntax.items s) <= 9223372036854775807) fun k =>
 List.length (Syntax.items s) - k 
def Z6w (s : Syntax) (x0 : Ob) : St := St.mk (regsOf 43 [(4, AV.sv (SV.one (AC.ptr 0 0))), (5, AV.sv (SV.one (AC.ptr 1 0)))]) [Ob.box [vI 0, vI 0, vS (ByteArray.mk #[]),
 AC.val (Cell.lit (Value.slice none 0 0)), AC.val (Cell.lit (Value.slice none 0 0))], Ob.box [vI (Syntax.kind s), vI (Syntax.number s), vS (Syntax.text s), AC.ref 2, AC.ref 3],
 Ob.arr true 1 (List.map intC (Syntax.scopes s)), x0] 0 
def Zg6 (s : Syntax) : List (Prop × AEx × St) := [(True, AEx.exit 0, Z6w s (Ob.arr true 5 (List.map syntaxC (Syntax.items s))))]

theorem Zqu {s : Syntax} {k : Nat} {x0 : SV} {x1 : Ob} (h0 : x0 = (li (k : Int))) (h1 : x1 = (Ob.arr true 5 (List.map syntaxC (List.take k (Syntax.items s))))) :
 Zc8 s x0 x1 = Z1w s k := by
  rw [h0, h1]
  rfl
theorem Zo4 {s : Syntax} {x0 y0 : Ob} (h0 : x0 = y0) : Z6w s x0 = Z6w s y0 := by rw [h0]
theorem Zu9 (s : Syntax) (k : Nat) : aexec Tryz.prog (loopAt Tryz.f230 0) (Z1w s k) [.br [.cells (syntaxF (List.getD (Syntax.items s) k default)), .draw
 [(5, [5, 6]), (6, [3, 13]), (8, [1])], .call [Mode.rd, Mode.rd] (syntaxO (List.getD (Syntax.items s) k default)) (AV.sv (syntaxR (List.getD (Syntax.items s) k default) 0)),
 .ghost (.sel [0, 1, 2, 14] [1, 4, 5, 27, 28, 29]), .goto (List.length (Syntax.items s) - (k + 1)) (Z1w s (k + 1))] [.ghost (.sel [0, 1, 2, 3] [4, 5]),
 .out 0]] (loopK (Z48 s) (Zg6 s) (List.length (Syntax.items s) - k)) = ((decide ((k : Int) < (↑(List.length (List.map syntaxC (Syntax.items s))) : Int)) = true
 -> (0 <= (k : Int) /\ (List.map syntaxC (Syntax.items s))[Int.toNat (k : Int)]? = some (syntaxF (List.getD (Syntax.items s) k default))) /\ Zd9 (List.getD (Syntax.items s) k
 default) /\ (List.length (List.map syntaxC (List.take k (Syntax.items s))) + 1) * 80 <= 140737488355328 /\ rng .i64 ((k : Int) + 1) /\ List.length (Syntax.items s) - (k + 1) <
 List.length (Syntax.items s) - k /\ Zc8 s (li ((k : Int) + 1)) (Ob.arr true 5 (List.map syntaxC (List.take k (Syntax.items s)) ++ [syntaxF (List.getD (Syntax.items s) k
 default)])) = Z1w s (k + 1) /\ Z48 s (List.length (Syntax.items s) - (k + 1)) (Z1w s (k + 1))) /\ (decide ((k : Int) < (↑(List.length (List.map syntaxC
 (Syntax.items s))) : Int)) = false -> True /\ Z6w s (Ob.arr true 5 (List.map syntaxC (List.take k (Syntax.items s)))) = Z6w s (Ob.arr true 5 (List.map syntaxC
 (Syntax.items s))))) := by kernel_rfl
theorem Zz8 (s : Syntax) (h : wY s <= 1048576) (ih : ∀ (z : Syntax), z ∈ Syntax.items s -> wY z <= 1048576 -> Zd9 z)  : LoopSem Tryz.prog (loopAt Tryz.f230 0) (Z48
 s) (Zg6 s) := by
  refine LoopSem.ofHead wide fun k h => ⟨_, _, Zu9 s k, ?_⟩
  have g1 := wY_eq s
  have g2 := @sumBy_mem _ wY s.items (s.items.getD k default)
  with_reducible repeat' (first | apply And.intro | exact flatI | exact flatS | exact rowLens | exact ih | (intro; skip) | apply obsN | apply obsC | apply obA | apply obM | apply obB | apply svA | apply tupA | apply lcA | apply lcS | apply svC | apply liC | apply lbC | apply lsC | apply vIc | apply vBc | apply vSc | apply vLc | apply mapC | apply hdI | apply Zqu | apply Zo4 | apply Z5e | apply ih)
  all_goals (try simp only [std] at *)
  all_goals (try (first | with_reducible apply Z5e | with_reducible apply ih | (simp only [<- List.map_append]; first | with_reducible apply Z5e | with_reducible apply ih)))
  all_goals (try (first | with_reducible rfl | omega | assumption | exact dT ‹_› | exact dF ‹_› | ((first | refine rowGet ?_ | refine getC ?_ rfl); (first | omega | (simp only [std]; omega) | grind)) | (show (_ : St) = _; rfl) | grind [take_get, getD_mem', snocI, snocS, rowSnoc, getD_mem']))
abbrev Zlc (s : Syntax) := (True → ObsEq [Ob.arr true 1 (List.map intC (Syntax.scopes s)), Ob.arr true 5 (List.map syntaxC (Syntax.items s))] [Ob.arr true 1 (List.map intC
 (Syntax.scopes s)), Ob.arr true 5 (List.map syntaxC (Syntax.items s))] ∧ AV.sv (SV.agg [vI (Syntax.kind s), vI (Syntax.number s), vS (Syntax.text s), AC.ref 0, AC.ref 1]) = AV.sv
 (SV.agg [vI (Syntax.kind s), vI (Syntax.number s), vS (Syntax.text s), AC.ref 0, AC.ref 1]))
theorem Zxl (s : Syntax) : aexec Tryz.prog (Tryz.f230.body.getD .skip) (entry [] [syntaxA s, fnA 146] 43) [.draw [(11, [10])], .call [Mode.rd]
 [Ob.arr true 1 (List.map intC (Syntax.scopes s))] (AV.sv (SV.one (AC.ref 0))), .br [.call [Mode.rd] [Ob.arr true 1 (List.map intC (Syntax.scopes s))] (AV.sv (SV.one (AC.ref
 0))), .ghost (.nilbox 10 4 true 5), .ghost (.sel [1, 10, 11, 12] [1, 4, 5, 27, 28, 29]), .loop (List.length (Syntax.items s) - 0) (Z1w s 0) (Z48
 s) [(True, AEx.exit 0, Z6w s (Ob.arr true 5 (List.map syntaxC (Syntax.items s))), [.fin [2, 3]])]] [.ghost (.nilbox 10 4 true 5), .ghost (.sel [1, 10,
 2, 11] [1, 4, 5, 27, 28, 29]), .loop (List.length (Syntax.items s) - 0) (Z1w s 0) (Z48 s) [(True, AEx.exit 0, Z6w s (Ob.arr true 5 (List.map syntaxC
 (Syntax.items s))), [.fin [2, 3]])]]] (finK Tryz.prog [ResultVar.cell 4 66] (syntaxO s) (AV.sv (syntaxR s 0))) = (Ze4 (Syntax.scopes s) /\ (decide (Syntax.kind s = 1) =
 true -> Ze4 (Syntax.scopes s) /\ (List.length (List.map syntaxC (Syntax.items s)) <= 9223372036854775807 -> Zc8 s (li 0) (Ob.arr true 5 []) = Z1w s 0 /\
 Z48 s (List.length (Syntax.items s) - 0) (Z1w s 0) /\ LoopSem Tryz.prog (loopAt Tryz.f230 0) (Z48 s) (Zg6 s) /\ (Zlc s) /\ True)) /\ (decide
 (Syntax.kind s = 1) = false -> List.length (List.map syntaxC (Syntax.items s)) <= 9223372036854775807 -> Zc8 s (li 0) (Ob.arr true 5 []) = Z1w s 0 /\ Z48 s
 (List.length (Syntax.items s) - 0) (Z1w s 0) /\ LoopSem Tryz.prog (loopAt Tryz.f230 0) (Z48 s) (Zg6 s) /\ (Zlc s) /\ True)) := by kernel_rfl
theorem Z119 (s : Syntax) (h : wY s <= 1048576) (ih : ∀ z ∈ s.items, ∀ (h : wY z <= 1048576), Zd9 z)  : Zd9 s := by
  refine CallOK.ofRun wide (Zxl s) Tryz.call230 Tryz.func230 rfl rfl rfl ?_
  try delta Zlc
  have g1 := wY_eq s
  with_reducible repeat' (first | apply And.intro | exact flatI | exact flatS | exact rowLens | exact ih | (intro; skip) | apply obsN | apply obsC | apply obA | apply obM | apply obB | apply svA | apply tupA | apply lcA | apply lcS | apply svC | apply liC | apply lbC | apply lsC | apply vIc | apply vBc | apply vSc | apply vLc | apply mapC | apply hdI | apply Zqu | apply Zz8 | apply Zo4 | apply Z5e)
  all_goals (try simp only [std] at *)
  all_goals (try (first | with_reducible apply Z5e | with_reducible apply ih | (simp only [<- List.map_append]; first | with_reducible apply Z5e | with_reducible apply ih)))
  all_goals (try (first | with_reducible rfl | omega | assumption | exact dT ‹_› | exact dF ‹_› | ((first | refine rowGet ?_ | refine getC ?_ rfl); (first | omega | (simp only [std]; omega) | grind)) | (show (_ : St) = _; rfl) | grind [snocI, snocS, rowSnoc]))
theorem Zxm (s : Syntax) : ∀ (h : wY s <= 1048576), Zd9 s := Syntax.ind (P := fun s => ∀ (h : wY s <= 1048576), Zd9 s) (fun s ih h => Z119 s h ih) s
abbrev Znd (s : Syntax) : Prop := CallOK Tryz.prog 179 [] [syntaxA s] (syntaxO s) (.sv (syntaxR s 0))
theorem Zxn (s : Syntax) : aexec Tryz.prog (Tryz.f179.body.getD .skip) (entry [] [syntaxA s] 5) [.call [Mode.rd, Mode.rd] (syntaxO s) (AV.sv (syntaxR
 s 0)), .fin [2, 3]] (finK Tryz.prog [ResultVar.cell 2 66] (syntaxO s) (AV.sv (syntaxR s 0))) = (Zd9 s /\ ObsEq [Ob.arr true 1 (List.map intC (Syntax.scopes s)), Ob.arr true
 5 (List.map syntaxC (Syntax.items s))] [Ob.arr true 1 (List.map intC (Syntax.scopes s)), Ob.arr true 5 (List.map syntaxC (Syntax.items s))] /\ AV.sv (SV.agg [vI (Syntax.kind s), vI
 (Syntax.number s), vS (Syntax.text s), AC.ref 0, AC.ref 1]) = AV.sv (SV.agg [vI (Syntax.kind s), vI (Syntax.number s), vS (Syntax.text s), AC.ref 0, AC.ref 1])) := by kernel_rfl
theorem Z2y (s : Syntax) (h : wY s <= 1048576)  : Znd s := by
  refine CallOK.ofRun wide (Zxn s) Tryz.call179 Tryz.func179 rfl rfl rfl ?_
  with_reducible repeat' (first | apply And.intro | exact flatI | exact flatS | exact rowLens | (intro; skip) | apply obsN | apply obsC | apply obA | apply obM | apply obB | apply svA | apply tupA | apply lcA | apply lcS | apply svC | apply liC | apply lbC | apply lsC | apply vIc | apply vBc | apply vSc | apply vLc | apply mapC | apply Zxm)
  all_goals (try simp only [std] at *)
  all_goals (try (first | with_reducible apply Zxm | (simp only [<- List.map_append]; first | with_reducible apply Zxm)))
  all_goals (try (first | with_reducible rfl | omega | assumption | exact dT ‹_› | exact dF ‹_› | ((first | refine rowGet ?_ | refine getC ?_ rfl); (first | omega | (simp only [std]; omega) | grind)) | (show (_ : St) = _; rfl) | grind [snocI, snocS, rowSnoc]))
def isUnd (s : Syntax) : Bool := decide (s.text.data.toList = [95])
def litP (x : Syntax) : Bool := isId x && !isDots x && !isUnd x
def okL (L : List Syntax) : Bool := L.all litP && decide ((L.length : Int) <= 8)
def hasI (L : List Syntax) (s : Syntax) : Bool := L.any fun x => decide (x.text = s.text) && decide (x.scopes = s.scopes)
def sameB (x s : Syntax) : Bool := decide (x.kind = 1) && decide (s.kind = 1) && decide (x.text = s.text) && decide (x.scopes = s.scopes)
def hasJ (L : List Syntax) (s : Syntax) : Bool := L.any fun x => sameB x s
theorem allS_stop {α : Type} [Inhabited α] {L : List α} {p : α -> Bool} {k : Nat} (h : k < L.length) (hp : p (L.getD k default) = false) : L.all p = false := by
  rw [List.all_eq_false]; exact ⟨_, getD_mem' h, by rw [hp]; decide⟩
theorem litP_at (x : Syntax) : litP x = ((decide (x.kind = 1) && isSyn x) && !isDots x && !decide (x.text.data.toList = [95])) := rfl
abbrev Zvj (L : List Syntax) : Prop := CallOK Tryz.prog 152 [] [ll (L.map syntaxC)] [] (.sv (lb (okL L)))
def Zie (L : List Syntax) (x0 : SV) : St := St.mk (regsOf 27 [(0, AV.sv (ll (List.map syntaxC L))), (5, AV.sv (ll (List.map syntaxC L))), (6, AV.sv (li (↑(List.length
 (List.map syntaxC L)) : Int))), (7, AV.sv x0)]) [] 0 
def Z5s (L : List Syntax) (k : Nat) : St := Zie L (li (k : Int)) 
abbrev Zbd (L : List Syntax) : Nat -> St -> Prop := Head (Z5s L) (fun k => k <= List.length L /\ List.length L <= 9223372036854775807 /\ List.all (List.take k L) litP = true)
 fun k => List.length L - k 
def Zg7 (L : List Syntax) : St := St.mk (regsOf 27 [(0, AV.sv (ll (List.map syntaxC L)))]) [] 0 
def Z33 (L : List Syntax) (x0 : SV) : St := St.mk (regsOf 27 [(2, AV.sv x0)]) [] 0 
def Zne (L : List Syntax) : List (Prop × AEx × St) := [(List.all L litP = true, AEx.exit 0, Zg7 L), (List.all L litP = false, AEx.ret, Z33 L (lb false))]

theorem Zsx {L : List Syntax} {k : Nat} {x0 : SV} (h0 : x0 = (li (k : Int))) : Zie L x0 = Z5s L k := by
  rw [h0]
  rfl
theorem Zpe {L : List Syntax} {x0 y0 : SV} (h0 : x0 = y0) : Z33 L x0 = Z33 L y0 := by rw [h0]
abbrev Ze6 (L : List Syntax) (k : Nat) := (decide (Syntax.kind (List.getD L k default) = 1) && isSyn (List.getD L k default))
theorem Zw7 (L : List Syntax) (k : Nat) : aexec Tryz.prog (loopAt Tryz.f152 0) (Z5s L k) [.br [.cells (syntaxF (List.getD L k default)), .call [Mode.rd]
 [] (AV.sv (lb (Ze6 L k))), .br [.bool true, .bool true, .ghost (.sel [] [2]), .out 1] [.call [Mode.rd] [] (AV.sv (lb (isDots (List.getD L k
 default)))), .br [.bool true, .ghost (.sel [] [2]), .out 1] [.br [.ghost (.sel [] [2]), .out 1] [.ghost (.sel [] [0, 5, 6, 7]), .goto
 (List.length L - (k + 1)) (Z5s L (k + 1))]]]] [.ghost (.sel [] [0]), .out 0]] (loopK (Zbd L) (Zne L) (List.length L - k)) = ((decide ((k : Int) <
 (↑(List.length (List.map syntaxC L)) : Int)) = true -> (0 <= (k : Int) /\ (List.map syntaxC L)[Int.toNat (k : Int)]? = some (syntaxF (List.getD L k default))) /\ Zgz
 (List.getD L k default) /\ ((!(Ze6 L k)) = true -> true = true /\ true = true /\ List.all L litP = false /\ Z33 L (lb false) = Z33 L (lb false)) /\
 ((!(Ze6 L k)) = false -> Z7n (List.getD L k default) /\ (isDots (List.getD L k default) = true -> true = true /\ List.all L litP = false /\ Z33 L (lb false) =
 Z33 L (lb false)) /\ (isDots (List.getD L k default) = false -> (decide (Array.toList (ByteArray.data (Syntax.text (List.getD L k default))) = [(95 : UInt8)]) = true ->
 List.all L litP = false /\ Z33 L (lb false) = Z33 L (lb false)) /\ (decide (Array.toList (ByteArray.data (Syntax.text (List.getD L k default))) = [(95 : UInt8)]) =
 false -> rng .i64 ((k : Int) + 1) /\ List.length L - (k + 1) < List.length L - k /\ Zie L (li ((k : Int) + 1)) = Z5s L (k + 1) /\ Zbd L (List.length L -
 (k + 1)) (Z5s L (k + 1)))))) /\ (decide ((k : Int) < (↑(List.length (List.map syntaxC L)) : Int)) = false -> List.all L litP = true /\ Zg7 L = Zg7 L)) := by
 kernel_rfl
theorem Z108 (L : List Syntax)  : LoopSem Tryz.prog (loopAt Tryz.f152 0) (Zbd L) (Zne L) := by
  refine LoopSem.ofHead wide fun k h => ⟨_, _, Zw7 L k, ?_⟩
  try delta Ze6
  have g1 := @allS_stop _ _ L litP k
  have g2 := litP_at (L.getD k default)
  with_reducible repeat' (first | apply And.intro | exact flatI | exact flatS | exact rowLens | (intro; skip) | apply obsN | apply obsC | apply obA | apply obM | apply obB | apply svA | apply tupA | apply lcA | apply lcS | apply svC | apply liC | apply lbC | apply lsC | apply vIc | apply vBc | apply vSc | apply vLc | apply mapC | apply hdI | apply Zsx | apply Zpe | apply Z1b | apply Z5)
  all_goals (try simp only [std] at *)
  all_goals (try (first | with_reducible apply Z1b | with_reducible apply Z5 | (simp only [<- List.map_append]; first | with_reducible apply Z1b | with_reducible apply Z5)))
  all_goals (try (first | with_reducible rfl | omega | assumption | exact dT ‹_› | exact dF ‹_› | ((first | refine rowGet ?_ | refine getC ?_ rfl); (first | omega | (simp only [std]; omega) | grind)) | (show (_ : St) = _; rfl) | grind [take_get, snocI, snocS, rowSnoc]))
theorem Zz9 (L : List Syntax) : aexec Tryz.prog (Tryz.f152.body.getD .skip) (entry [] [ll (List.map syntaxC L)] 27) [.ghost (.sel [] [0, 5, 6,
 7]), .loop (List.length L - 0) (Z5s L 0) (Zbd L) [(List.all L litP = true, AEx.exit 0, Zg7 L, [.fin []]), (List.all L litP = false, AEx.ret,
 Z33 L (lb false), [.fin []])]] (finK Tryz.prog [ResultVar.tmp 2] [] (AV.sv (lb (okL L)))) = (List.length (List.map syntaxC L) <= 9223372036854775807 -> Zie L (li
 0) = Z5s L 0 /\ Zbd L (List.length L - 0) (Z5s L 0) /\ LoopSem Tryz.prog (loopAt Tryz.f152 0) (Zbd L) (Zne L) /\ (List.all L litP = true ->
 List.length (List.map syntaxC L) <= 9223372036854775807 -> ObsEq [] [] /\ AV.sv (lb (decide ((↑(List.length (List.map syntaxC L)) : Int) <= 8))) = AV.sv (lb (okL L))) /\ (List.all L
 litP = false -> ObsEq [] [] /\ AV.sv (lb false) = AV.sv (lb (okL L))) /\ True) := by kernel_rfl
theorem Zj2 (L : List Syntax)  : Zvj L := by
  refine CallOK.ofRun wide (Zz9 L) Tryz.call152 Tryz.func152 rfl rfl rfl ?_
  with_reducible repeat' (first | apply And.intro | exact flatI | exact flatS | exact rowLens | (intro; skip) | apply obsN | apply obsC | apply obA | apply obM | apply obB | apply svA | apply tupA | apply lcA | apply lcS | apply svC | apply liC | apply lbC | apply lsC | apply vIc | apply vBc | apply vSc | apply vLc | apply mapC | apply hdI | apply Zsx | apply Z108 | apply Zpe | apply Z1b | apply Z5)
  all_goals (try simp only [std] at *)
  all_goals (try (first | with_reducible apply Z1b | with_reducible apply Z5 | (simp only [<- List.map_append]; first | with_reducible apply Z1b | with_reducible apply Z5)))
  all_goals (try (first | with_reducible rfl | omega | assumption | exact dT ‹_› | exact dF ‹_› | ((first | refine rowGet ?_ | refine getC ?_ rfl); (first | omega | (simp only [std]; omega) | grind)) | (show (_ : St) = _; rfl) | grind [okL, snocI, snocS, rowSnoc]))
abbrev Zpf (s : Syntax) : Prop := CallOK Tryz.prog 176 [] [syntaxA s] [] (.sv (lb (decide (s.kind = 1) && isUnd s)))
theorem Zza (s : Syntax) : aexec Tryz.prog (Tryz.f176.body.getD .skip) (entry [] [syntaxA s] 11) [.br [.fin []] [.fin []]] (finK Tryz.prog
 [ResultVar.tmp 2] [] (AV.sv (lb (decide (Syntax.kind s = 1) && isUnd s)))) = ((decide (Syntax.kind s = 1) = true -> ObsEq [] [] /\ AV.sv (lb (decide (Array.toList (ByteArray.data
 (Syntax.text s)) = [(95 : UInt8)]))) = AV.sv (lb (decide (Syntax.kind s = 1) && isUnd s))) /\ (decide (Syntax.kind s = 1) = false -> ObsEq [] [] /\ AV.sv (lb false) = AV.sv (lb
 (decide (Syntax.kind s = 1) && isUnd s)))) := by kernel_rfl
theorem Z3t (s : Syntax)  : Zpf s := by
  refine CallOK.ofRun wide (Zza s) Tryz.call176 Tryz.func176 rfl rfl rfl ?_
  with_reducible repeat' (first | apply And.intro | exact flatI | exact flatS | exact rowLens | (intro; skip) | apply obsN | apply obsC | apply obA | apply obM | apply obB | apply svA | apply tupA | apply lcA | apply lcS | apply svC | apply liC | apply lbC | apply lsC | apply vIc | apply vBc | apply vSc | apply vLc | apply mapC)
  all_goals (try simp only [std] at *)
  all_goals (try (first | with_reducible rfl | omega | assumption | exact dT ‹_› | exact dF ‹_› | ((first | refine rowGet ?_ | refine getC ?_ rfl); (first | omega | (simp only [std]; omega) | grind)) | (show (_ : St) = _; rfl) | grind [isUnd, snocI, snocS, rowSnoc]))
abbrev Zpg (L : List Syntax) : Prop := CallOK Tryz.prog 161 [] [ll (L.map syntaxC)] [] (.sv (lb (okL L)))
def Zif (L : List Syntax) (x0 : SV) : St := St.mk (regsOf 26 [(8, AV.sv (ll (List.map syntaxC L))), (9, AV.sv (li (↑(List.length (List.map syntaxC L)) : Int))), (10, AV.sv
 x0)]) [] 0 
def Z5t (L : List Syntax) (k : Nat) : St := Zif L (li (k : Int)) 
abbrev Zbe (L : List Syntax) : Nat -> St -> Prop := Head (Z5t L) (fun k => k <= List.length L /\ List.length L <= 9223372036854775807 /\ List.all (List.take k L) litP = true)
 fun k => List.length L - k 
def Zg8 (L : List Syntax) : St := St.mk (regsOf 26 []) [] 0 
def Z34 (L : List Syntax) (x0 : SV) : St := St.mk (regsOf 26 [(2, AV.sv x0)]) [] 0 
def Znf (L : List Syntax) : List (Prop × AEx × St) := [(List.all L litP = true, AEx.exit 0, Zg8 L), (List.all L litP = false, AEx.ret, Z34 L (lb false))]

theorem Zsy {L : List Syntax} {k : Nat} {x0 : SV} (h0 : x0 = (li (k : Int))) : Zif L x0 = Z5t L k := by
  rw [h0]
  rfl
theorem Zph {L : List Syntax} {x0 y0 : SV} (h0 : x0 = y0) : Z34 L x0 = Z34 L y0 := by rw [h0]
abbrev Ze7 (L : List Syntax) (k : Nat) := (decide (Syntax.kind (List.getD L k default) = 1) && isSyn (List.getD L k default))
abbrev Ze8 (L : List Syntax) (k : Nat) := (decide (Syntax.kind (List.getD L k default) = 1) && isUnd (List.getD L k default))
theorem Zw8 (L : List Syntax) (k : Nat) : aexec Tryz.prog (loopAt Tryz.f161 0) (Z5t L k) [.br [.cells (syntaxF (List.getD L k default)), .call [Mode.rd]
 [] (AV.sv (lb (Ze7 L k))), .br [.bool true, .bool true, .ghost (.sel [] [2]), .out 1] [.call [Mode.rd] [] (AV.sv (lb (isDots (List.getD L k
 default)))), .br [.bool true, .ghost (.sel [] [2]), .out 1] [.call [Mode.rd] [] (AV.sv (lb (Ze8 L k))), .br [.ghost (.sel [] [2]), .out
 1] [.ghost (.sel [] [8, 9, 10]), .goto (List.length L - (k + 1)) (Z5t L (k + 1))]]]] [.ghost (.sel [] []), .out 0]] (loopK (Zbe L) (Znf
 L) (List.length L - k)) = ((decide ((k : Int) < (↑(List.length (List.map syntaxC L)) : Int)) = true -> (0 <= (k : Int) /\ (List.map syntaxC L)[Int.toNat (k : Int)]? = some
 (syntaxF (List.getD L k default))) /\ Zh0 (List.getD L k default) /\ ((!(Ze7 L k)) = true -> true = true /\ true = true /\ List.all L litP = false /\ Z34 L (lb
 false) = Z34 L (lb false)) /\ ((!(Ze7 L k)) = false -> Z4k (List.getD L k default) /\ (isDots (List.getD L k default) = true -> true = true /\ List.all L litP =
 false /\ Z34 L (lb false) = Z34 L (lb false)) /\ (isDots (List.getD L k default) = false -> Zpf (List.getD L k default) /\ ((Ze8 L k) = true -> List.all
 L litP = false /\ Z34 L (lb false) = Z34 L (lb false)) /\ ((Ze8 L k) = false -> rng .i64 ((k : Int) + 1) /\ List.length L - (k + 1) < List.length L -
 k /\ Zif L (li ((k : Int) + 1)) = Z5t L (k + 1) /\ Zbe L (List.length L - (k + 1)) (Z5t L (k + 1)))))) /\ (decide ((k : Int) < (↑(List.length (List.map
 syntaxC L)) : Int)) = false -> List.all L litP = true /\ Zg8 L = Zg8 L)) := by kernel_rfl
theorem Z109 (L : List Syntax)  : LoopSem Tryz.prog (loopAt Tryz.f161 0) (Zbe L) (Znf L) := by
  refine LoopSem.ofHead wide fun k h => ⟨_, _, Zw8 L k, ?_⟩
  try delta Ze7 Ze8
  with_reducible repeat' (first | apply And.intro | exact flatI | exact flatS | exact rowLens | (intro; skip) | apply obsN | apply obsC | apply obA | apply obM | apply obB | apply svA | apply tupA | apply lcA | apply lcS | apply svC | apply liC | apply lbC | apply lsC | apply vIc | apply vBc | apply vSc | apply vLc | apply mapC | apply hdI | apply Zsy | apply Zph | apply Z1c | apply Z0 | apply Z3t)
  all_goals (try simp only [std] at *)
  all_goals (try (first | with_reducible apply Z1c | with_reducible apply Z0 | with_reducible apply Z3t | (simp only [<- List.map_append]; first | with_reducible apply Z1c | with_reducible apply Z0 | with_reducible apply Z3t)))
  all_goals (try (first | with_reducible rfl | omega | assumption | exact dT ‹_› | exact dF ‹_› | ((first | refine rowGet ?_ | refine getC ?_ rfl); (first | omega | (simp only [std]; omega) | grind)) | (show (_ : St) = _; rfl) | grind [take_get, litP, isId, getD_mem', snocI, snocS, rowSnoc]))
theorem Zzb (L : List Syntax) : aexec Tryz.prog (Tryz.f161.body.getD .skip) (entry [] [ll (List.map syntaxC L)] 26) [.br [.fin []] [.ghost
 (.sel [] [8, 9, 10]), .loop (List.length L - 0) (Z5t L 0) (Zbe L) [(List.all L litP = true, AEx.exit 0, Zg8 L, [.fin []]), (List.all L litP =
 false, AEx.ret, Z34 L (lb false), [.fin []])]]] (finK Tryz.prog [ResultVar.tmp 2] [] (AV.sv (lb (okL L)))) = (List.length (List.map syntaxC L) <= 9223372036854775807 ->
 (decide (8 < (↑(List.length (List.map syntaxC L)) : Int)) = true -> ObsEq [] [] /\ AV.sv (lb false) = AV.sv (lb (okL L))) /\ (decide (8 < (↑(List.length (List.map syntaxC L)) : Int))
 = false -> List.length (List.map syntaxC L) <= 9223372036854775807 -> Zif L (li 0) = Z5t L 0 /\ Zbe L (List.length L - 0) (Z5t L 0) /\ LoopSem Tryz.prog
 (loopAt Tryz.f161 0) (Zbe L) (Znf L) /\ (List.all L litP = true -> ObsEq [] [] /\ AV.sv (lb true) = AV.sv (lb (okL L))) /\ (List.all L litP = false -> ObsEq [] [] /\ AV.sv
 (lb false) = AV.sv (lb (okL L))) /\ True)) := by kernel_rfl
theorem Zbf (L : List Syntax)  : Zpg L := by
  refine CallOK.ofRun wide (Zzb L) Tryz.call161 Tryz.func161 rfl rfl rfl ?_
  with_reducible repeat' (first | apply And.intro | exact flatI | exact flatS | exact rowLens | (intro; skip) | apply obsN | apply obsC | apply obA | apply obM | apply obB | apply svA | apply tupA | apply lcA | apply lcS | apply svC | apply liC | apply lbC | apply lsC | apply vIc | apply vBc | apply vSc | apply vLc | apply mapC | apply hdI | apply Zsy | apply Z109 | apply Zph | apply Z1c | apply Z0 | apply Z3t)
  all_goals (try simp only [std] at *)
  all_goals (try (first | with_reducible apply Z1c | with_reducible apply Z0 | with_reducible apply Z3t | (simp only [<- List.map_append]; first | with_reducible apply Z1c | with_reducible apply Z0 | with_reducible apply Z3t)))
  all_goals (try (first | with_reducible rfl | omega | assumption | exact dT ‹_› | exact dF ‹_› | ((first | refine rowGet ?_ | refine getC ?_ rfl); (first | omega | (simp only [std]; omega) | grind)) | (show (_ : St) = _; rfl) | grind [okL, snocI, snocS, rowSnoc]))
abbrev Zvk (L : List Syntax) (s : Syntax) : Prop := CallOK Tryz.prog 170 [] [ll (L.map syntaxC), syntaxA s] [] (.sv (lb (hasI L s)))
def Zig (L : List Syntax) (s : Syntax) (x0 : SV) : St := St.mk (regsOf 17 [(3, AV.sv (SV.one (AC.ptr 0 0))), (7, AV.sv (ll (List.map syntaxC L))), (8, AV.sv (li
 (↑(List.length (List.map syntaxC L)) : Int))), (9, AV.sv x0)]) [Ob.box (vals (syntaxF s))] 0 
def Z5u (L : List Syntax) (s : Syntax) (k : Nat) : St := Zig L s (li (k : Int)) 
abbrev Zbg (L : List Syntax) (s : Syntax) : Nat -> St -> Prop := Head (Z5u L s) (fun k => k <= List.length L /\ List.length L <= 9223372036854775807 /\ hasI (List.take k L) s
 = false) fun k => List.length L - k 
def Zg9 (L : List Syntax) (s : Syntax) : St := St.mk (regsOf 17 []) [] 0 
def Z9x (L : List Syntax) (s : Syntax) (x0 : SV) : St := St.mk (regsOf 17 [(4, AV.sv x0)]) [] 0 
def Zng (L : List Syntax) (s : Syntax) : List (Prop × AEx × St) := [(hasI L s = false, AEx.exit 0, Zg9 L s), (hasI L s = true, AEx.ret, Z9x L s (lb true))]

theorem Zsz {L : List Syntax} {s : Syntax} {k : Nat} {x0 : SV} (h0 : x0 = (li (k : Int))) : Zig L s x0 = Z5u L s k := by
  rw [h0]
  rfl
theorem Zpi {L : List Syntax} {s : Syntax} {x0 y0 : SV} (h0 : x0 = y0) : Z9x L s x0 = Z9x L s y0 := by rw [h0]
abbrev Ze9 (L : List Syntax) (s : Syntax) (k : Nat) := (decide (Syntax.text (List.getD L k default) = Syntax.text s) && decide (Syntax.scopes (List.getD L k default) =
 Syntax.scopes s))
theorem Zw9 (L : List Syntax) (s : Syntax) (k : Nat) : aexec Tryz.prog (loopAt Tryz.f170 0) (Z5u L s k) [.br [.cells (syntaxF (List.getD L k default)),
 .call [Mode.rd, Mode.rd] [] (AV.sv (lb (Ze9 L s k))), .br [.ghost (.sel [] [4]), .out 1] [.ghost (.sel [0] [3, 7, 8, 9]), .goto (List.length L
 - (k + 1)) (Z5u L s (k + 1))]] [.ghost (.sel [] []), .out 0]] (loopK (Zbg L s) (Zng L s) (List.length L - k)) = ((decide ((k : Int) <
 (↑(List.length (List.map syntaxC L)) : Int)) = true -> (0 <= (k : Int) /\ (List.map syntaxC L)[Int.toNat (k : Int)]? = some (syntaxF (List.getD L k default))) /\ Zp4
 (List.getD L k default) s /\ ((Ze9 L s k) = true -> hasI L s = true /\ Z9x L s (lb true) = Z9x L s (lb true)) /\ ((Ze9 L s k) = false -> rng
 IntKind.i64 ((k : Int) + 1) /\ List.length L - (k + 1) < List.length L - k /\ Zig L s (li ((k : Int) + 1)) = Z5u L s (k + 1) /\ Zbg L s (List.length L - (k +
 1)) (Z5u L s (k + 1)))) /\ (decide ((k : Int) < (↑(List.length (List.map syntaxC L)) : Int)) = false -> hasI L s = false /\ Zg9 L s = Zg9 L s)) := by
 kernel_rfl
theorem Z10a (L : List Syntax) (s : Syntax)  : LoopSem Tryz.prog (loopAt Tryz.f170 0) (Zbg L s) (Zng L s) := by
  refine LoopSem.ofHead wide fun k h => ⟨_, _, Zw9 L s k, ?_⟩
  try delta Ze9
  with_reducible repeat' (first | apply And.intro | exact flatI | exact flatS | exact rowLens | (intro; skip) | apply obsN | apply obsC | apply obA | apply obM | apply obB | apply svA | apply tupA | apply lcA | apply lcS | apply svC | apply liC | apply lbC | apply lsC | apply vIc | apply vBc | apply vSc | apply vLc | apply mapC | apply hdI | apply Zsz | apply Zpi | apply Z71)
  all_goals (try simp only [std] at *)
  all_goals (try (first | with_reducible apply Z71 | (simp only [<- List.map_append]; first | with_reducible apply Z71)))
  all_goals (try (first | with_reducible rfl | omega | assumption | exact dT ‹_› | exact dF ‹_› | ((first | refine rowGet ?_ | refine getC ?_ rfl); (first | omega | (simp only [std]; omega) | grind)) | (show (_ : St) = _; rfl) | grind [take_get, hasI, getD_mem', snocI, snocS, rowSnoc]))
theorem Zzc (L : List Syntax) (s : Syntax) : aexec Tryz.prog (Tryz.f170.body.getD .skip) (entry [] [ll (List.map syntaxC L), syntaxA s] 17) [.ghost
 (.sel [0] [3, 7, 8, 9]), .loop (List.length L - 0) (Z5u L s 0) (Zbg L s) [(hasI L s = false, AEx.exit 0, Zg9 L s, [.fin []]), (hasI L s = true,
 AEx.ret, Z9x L s (lb true), [.fin []])]] (finK Tryz.prog [ResultVar.tmp 4] [] (AV.sv (lb (hasI L s)))) = (List.length (List.map syntaxC L) <= 9223372036854775807 ->
 Zig L s (li 0) = Z5u L s 0 /\ Zbg L s (List.length L - 0) (Z5u L s 0) /\ LoopSem Tryz.prog (loopAt Tryz.f170 0) (Zbg L s) (Zng L s) /\ (hasI
 L s = false -> ObsEq [] [] /\ AV.sv (lb false) = AV.sv (lb (hasI L s))) /\ (hasI L s = true -> ObsEq [] [] /\ AV.sv (lb true) = AV.sv (lb (hasI L s))) /\ True) := by kernel_rfl
theorem Zj3 (L : List Syntax) (s : Syntax)  : Zvk L s := by
  refine CallOK.ofRun wide (Zzc L s) Tryz.call170 Tryz.func170 rfl rfl rfl ?_
  with_reducible repeat' (first | apply And.intro | exact flatI | exact flatS | exact rowLens | (intro; skip) | apply obsN | apply obsC | apply obA | apply obM | apply obB | apply svA | apply tupA | apply lcA | apply lcS | apply svC | apply liC | apply lbC | apply lsC | apply vIc | apply vBc | apply vSc | apply vLc | apply mapC | apply hdI | apply Zsz | apply Z10a | apply Zpi | apply Z71)
  all_goals (try simp only [std] at *)
  all_goals (try (first | with_reducible apply Z71 | (simp only [<- List.map_append]; first | with_reducible apply Z71)))
  all_goals (try (first | with_reducible rfl | omega | assumption | exact dT ‹_› | exact dF ‹_› | ((first | refine rowGet ?_ | refine getC ?_ rfl); (first | omega | (simp only [std]; omega) | grind)) | (show (_ : St) = _; rfl) | grind [hasI, snocI, snocS, rowSnoc]))
abbrev Zvl (L : List Syntax) (s : Syntax) : Prop := CallOK Tryz.prog 177 [] [ll (L.map syntaxC), syntaxA s] [] (.sv (lb (hasJ L s)))
def Zih (L : List Syntax) (s : Syntax) (x0 : SV) : St := St.mk (regsOf 17 [(3, AV.sv (SV.one (AC.ptr 0 0))), (7, AV.sv (ll (List.map syntaxC L))), (8, AV.sv (li
 (↑(List.length (List.map syntaxC L)) : Int))), (9, AV.sv x0)]) [Ob.box (vals (syntaxF s))] 0 
def Z5v (L : List Syntax) (s : Syntax) (k : Nat) : St := Zih L s (li (k : Int)) 
abbrev Zbh (L : List Syntax) (s : Syntax) : Nat -> St -> Prop := Head (Z5v L s) (fun k => k <= List.length L /\ List.length L <= 9223372036854775807 /\ hasJ (List.take k L) s
 = false) fun k => List.length L - k 
def Zga (L : List Syntax) (s : Syntax) : St := St.mk (regsOf 17 []) [] 0 
def Z9y (L : List Syntax) (s : Syntax) (x0 : SV) : St := St.mk (regsOf 17 [(4, AV.sv x0)]) [] 0 
def Znh (L : List Syntax) (s : Syntax) : List (Prop × AEx × St) := [(hasJ L s = false, AEx.exit 0, Zga L s), (hasJ L s = true, AEx.ret, Z9y L s (lb true))]

theorem Zt0 {L : List Syntax} {s : Syntax} {k : Nat} {x0 : SV} (h0 : x0 = (li (k : Int))) : Zih L s x0 = Z5v L s k := by
  rw [h0]
  rfl
theorem Zpj {L : List Syntax} {s : Syntax} {x0 y0 : SV} (h0 : x0 = y0) : Z9y L s x0 = Z9y L s y0 := by rw [h0]
abbrev Zea (L : List Syntax) (s : Syntax) (k : Nat) := (decide (Syntax.kind (List.getD L k default) = 1) && decide (Syntax.kind s = 1) && decide (Syntax.text (List.getD L
 k default) = Syntax.text s) && decide (Syntax.scopes (List.getD L k default) = Syntax.scopes s))
theorem Zwa (L : List Syntax) (s : Syntax) (k : Nat) : aexec Tryz.prog (loopAt Tryz.f177 0) (Z5v L s k) [.br [.cells (syntaxF (List.getD L k default)),
 .call [Mode.rd, Mode.rd] [] (AV.sv (lb (Zea L s k))), .br [.ghost (.sel [] [4]), .out 1] [.ghost (.sel [0] [3, 7, 8, 9]), .goto (List.length L
 - (k + 1)) (Z5v L s (k + 1))]] [.ghost (.sel [] []), .out 0]] (loopK (Zbh L s) (Znh L s) (List.length L - k)) = ((decide ((k : Int) <
 (↑(List.length (List.map syntaxC L)) : Int)) = true -> (0 <= (k : Int) /\ (List.map syntaxC L)[Int.toNat (k : Int)]? = some (syntaxF (List.getD L k default))) /\ Zkb
 (List.getD L k default) s /\ ((Zea L s k) = true -> hasJ L s = true /\ Z9y L s (lb true) = Z9y L s (lb true)) /\ ((Zea L s k) = false -> rng
 IntKind.i64 ((k : Int) + 1) /\ List.length L - (k + 1) < List.length L - k /\ Zih L s (li ((k : Int) + 1)) = Z5v L s (k + 1) /\ Zbh L s (List.length L - (k +
 1)) (Z5v L s (k + 1)))) /\ (decide ((k : Int) < (↑(List.length (List.map syntaxC L)) : Int)) = false -> hasJ L s = false /\ Zga L s = Zga L s)) := by
 kernel_rfl
theorem Z10b (L : List Syntax) (s : Syntax)  : LoopSem Tryz.prog (loopAt Tryz.f177 0) (Zbh L s) (Znh L s) := by
  refine LoopSem.ofHead wide fun k h => ⟨_, _, Zwa L s k, ?_⟩
  try delta Zea
  with_reducible repeat' (first | apply And.intro | exact flatI | exact flatS | exact rowLens | (intro; skip) | apply obsN | apply obsC | apply obA | apply obM | apply obB | apply svA | apply tupA | apply lcA | apply lcS | apply svC | apply liC | apply lbC | apply lsC | apply vIc | apply vBc | apply vSc | apply vLc | apply mapC | apply hdI | apply Zt0 | apply Zpj | apply Z1d)
  all_goals (try simp only [std] at *)
  all_goals (try (first | with_reducible apply Z1d | (simp only [<- List.map_append]; first | with_reducible apply Z1d)))
  all_goals (try (first | with_reducible rfl | omega | assumption | exact dT ‹_› | exact dF ‹_› | ((first | refine rowGet ?_ | refine getC ?_ rfl); (first | omega | (simp only [std]; omega) | grind)) | (show (_ : St) = _; rfl) | grind [take_get, hasJ, sameB, getD_mem', snocI, snocS, rowSnoc]))
theorem Zzd (L : List Syntax) (s : Syntax) : aexec Tryz.prog (Tryz.f177.body.getD .skip) (entry [] [ll (List.map syntaxC L), syntaxA s] 17) [.ghost
 (.sel [0] [3, 7, 8, 9]), .loop (List.length L - 0) (Z5v L s 0) (Zbh L s) [(hasJ L s = false, AEx.exit 0, Zga L s, [.fin []]), (hasJ L s = true,
 AEx.ret, Z9y L s (lb true), [.fin []])]] (finK Tryz.prog [ResultVar.tmp 4] [] (AV.sv (lb (hasJ L s)))) = (List.length (List.map syntaxC L) <= 9223372036854775807 ->
 Zih L s (li 0) = Z5v L s 0 /\ Zbh L s (List.length L - 0) (Z5v L s 0) /\ LoopSem Tryz.prog (loopAt Tryz.f177 0) (Zbh L s) (Znh L s) /\ (hasJ
 L s = false -> ObsEq [] [] /\ AV.sv (lb false) = AV.sv (lb (hasJ L s))) /\ (hasJ L s = true -> ObsEq [] [] /\ AV.sv (lb true) = AV.sv (lb (hasJ L s))) /\ True) := by kernel_rfl
theorem Zbi (L : List Syntax) (s : Syntax)  : Zvl L s := by
  refine CallOK.ofRun wide (Zzd L s) Tryz.call177 Tryz.func177 rfl rfl rfl ?_
  with_reducible repeat' (first | apply And.intro | exact flatI | exact flatS | exact rowLens | (intro; skip) | apply obsN | apply obsC | apply obA | apply obM | apply obB | apply svA | apply tupA | apply lcA | apply lcS | apply svC | apply liC | apply lbC | apply lsC | apply vIc | apply vBc | apply vSc | apply vLc | apply mapC | apply hdI | apply Zt0 | apply Z10b | apply Zpj | apply Z1d)
  all_goals (try simp only [std] at *)
  all_goals (try (first | with_reducible apply Z1d | (simp only [<- List.map_append]; first | with_reducible apply Z1d)))
  all_goals (try (first | with_reducible rfl | omega | assumption | exact dT ‹_› | exact dF ‹_› | ((first | refine rowGet ?_ | refine getC ?_ rfl); (first | omega | (simp only [std]; omega) | grind)) | (show (_ : St) = _; rfl) | grind [hasJ, snocI, snocS, rowSnoc]))
def atF (l : List Syntax) : Nat -> Int
  | 0 => -1
  | k + 1 => if isDots (l.getD k default) = true then (k : Int) else atF l k
def okA (l : List Syntax) : Nat -> Bool
  | 0 => true
  | k + 1 => okA l k && (!isDots (l.getD k default) || (decide (k ≠ 0) && decide (atF l k < 0)))
def atS (l : List Syntax) : Int := atF l l.length
def okS (l : List Syntax) : Bool := okA l l.length
theorem okA_le (l : List Syntax) : ∀ (m k : Nat), k <= m -> okA l m = true -> okA l k = true
  | 0, k, h, _ => by
    obtain rfl : k = 0 := by omega
    rfl
  | m + 1, k, h, ht => by
    by_cases e : k = m + 1
    . rw [e]; exact ht
    . refine okA_le l m k (by omega) ?_
      simp only [okA, Bool.and_eq_true] at ht; exact ht.1
def atI (l : List Syntax) : Int := if l.findIdx isDots < l.length then (l.findIdx isDots : Int) else -1
abbrev Z100 (l : List Syntax) : Prop := CallOK Tryz.prog 215 [] [ll (l.map syntaxC)] [] (.tup [li (if okS l = true then atS l else -1), lb (okS l)])
def Zjk (l : List Syntax) (x0 : SV) (x1 : SV) : St := St.mk (regsOf 26 [(4, AV.sv x1), (7, AV.sv (ll (List.map syntaxC l))), (8, AV.sv (li (↑(List.length (List.map syntaxC l))
 : Int))), (9, AV.sv x0)]) [] 0 
def Z5f (l : List Syntax) (k : Nat) : St := Zjk l (li (k : Int)) (li (atF l k)) 
abbrev Zda (l : List Syntax) : Nat -> St -> Prop := Head (Z5f l) (fun k => k <= List.length l /\ List.length l <= 9223372036854775807 /\ okA l k = true) fun k => List.length l - k
def Zdf (l : List Syntax) (x0 : SV) : St := St.mk (regsOf 26 [(4, AV.sv x0)]) [] 0 
def Z9a (l : List Syntax) (x0 : SV) (x1 : SV) : St := St.mk (regsOf 26 [(2, AV.sv x0), (3, AV.sv x1)]) [] 0 
def Zrc (l : List Syntax) : List (Prop × AEx × St) := [(okS l = true, AEx.exit 0, Zdf l (li (atS l))), (okS l = false, AEx.ret, Z9a l (li (-1 : Int)) (lb false))]

theorem Zxo {l : List Syntax} {k : Nat} {x0 : SV} {x1 : SV} (h0 : x0 = (li (k : Int))) (h1 : x1 = (li (atF l k))) : Zjk l x0 x1 = Z5f l k := by
  rw [h0, h1]
  rfl
theorem Zt1 {l : List Syntax} {x0 y0 : SV} (h0 : x0 = y0) : Zdf l x0 = Zdf l y0 := by rw [h0]
theorem Zt2 {l : List Syntax} {x0 y0 : SV} {x1 y1 : SV} (h0 : x0 = y0) (h1 : x1 = y1) : Z9a l x0 x1 = Z9a l y0 y1 := by rw [h0, h1]
theorem Zze (l : List Syntax) (k : Nat) : aexec Tryz.prog (loopAt Tryz.f215 0) (Z5f l k) [.br [.cells (syntaxF (List.getD l k default)), .call [Mode.rd] []
 (AV.sv (lb (isDots (List.getD l k default)))), .br [.ghost (.sel [] [4, 7, 8, 9]), .goto (List.length l - (k + 1)) (Z5f l (k + 1))] [.br [.bool true,
 .ghost (.sel [] [2, 3]), .out 1] [.br [.ghost (.sel [] [2, 3]), .out 1] [.ghost (.sel [] [4, 7, 8, 9]), .goto (List.length l - (k + 1))
 (Z5f l (k + 1))]]]] [.ghost (.sel [] [4]), .out 0]] (loopK (Zda l) (Zrc l) (List.length l - k)) = ((decide ((k : Int) < (↑(List.length (List.map syntaxC
 l)) : Int)) = true -> (0 <= (k : Int) /\ (List.map syntaxC l)[Int.toNat (k : Int)]? = some (syntaxF (List.getD l k default))) /\ Z7n (List.getD l k default) /\ ((!isDots
 (List.getD l k default)) = true -> rng .i64 ((k : Int) + 1) /\ List.length l - (k + 1) < List.length l - k /\ Zjk l (li ((k : Int) + 1)) (li (atF l k)) = Z5f l (k
 + 1) /\ Zda l (List.length l - (k + 1)) (Z5f l (k + 1))) /\ ((!isDots (List.getD l k default)) = false -> (decide ((k : Int) = 0) = true -> true = true /\ okS l = false /\
 Z9a l (li (-1 : Int)) (lb false) = Z9a l (li (-1 : Int)) (lb false)) /\ (decide ((k : Int) = 0) = false -> (decide (0 <= atF l k) = true -> okS l = false /\ Z9a l
 (li (-1 : Int)) (lb false) = Z9a l (li (-1 : Int)) (lb false)) /\ (decide (0 <= atF l k) = false -> rng .i64 ((k : Int) + 1) /\ List.length l - (k + 1) < List.length l -
 k /\ Zjk l (li ((k : Int) + 1)) (li (k : Int)) = Z5f l (k + 1) /\ Zda l (List.length l - (k + 1)) (Z5f l (k + 1)))))) /\ (decide ((k : Int) < (↑(List.length
 (List.map syntaxC l)) : Int)) = false -> okS l = true /\ Zdf l (li (atF l k)) = Zdf l (li (atS l)))) := by kernel_rfl
theorem Z11a (l : List Syntax)  : LoopSem Tryz.prog (loopAt Tryz.f215 0) (Zda l) (Zrc l) := by
  refine LoopSem.ofHead wide fun k h => ⟨_, _, Zze l k, ?_⟩
  have g1 := okA_le l l.length (k + 1)
  have g2 : okA l (k + 1) = (okA l k && (!isDots (l.getD k default) || (decide (k ≠ 0) && decide (atF l k < 0)))) := rfl
  have g3 : atF l (k + 1) = if isDots (l.getD k default) = true then (k : Int) else atF l k := rfl
  with_reducible repeat' (first | apply And.intro | exact flatI | exact flatS | exact rowLens | (intro; skip) | apply obsN | apply obsC | apply obA | apply obM | apply obB | apply svA | apply tupA | apply lcA | apply lcS | apply svC | apply liC | apply lbC | apply lsC | apply vIc | apply vBc | apply vSc | apply vLc | apply mapC | apply hdI | apply Zxo | apply Zt1 | apply Zt2 | apply Z5)
  all_goals (try simp only [std] at *)
  all_goals (try (first | with_reducible apply Z5 | (simp only [<- List.map_append]; first | with_reducible apply Z5)))
  all_goals (try (first | with_reducible rfl | omega | assumption | exact dT ‹_› | exact dF ‹_› | ((first | refine rowGet ?_ | refine getC ?_ rfl); (first | omega | (simp only [std]; omega) | grind)) | (show (_ : St) = _; rfl) | grind [okS, atS, snocI, snocS, rowSnoc]))
theorem Z10z (l : List Syntax) : aexec Tryz.prog (Tryz.f215.body.getD .skip) (entry [] [ll (List.map syntaxC l)] 26) [.ghost (.sel [] [4, 7, 8, 9]),
 .loop (List.length l - 0) (Z5f l 0) (Zda l) [(okS l = true, AEx.exit 0, Zdf l (li (atS l)), [.fin []]), (okS l = false, AEx.ret, Z9a l (li (-1 : Int))
 (lb false), [.fin []])]] (finK Tryz.prog [ResultVar.tmp 2, ResultVar.tmp 3] [] (AV.tup [li (if okS l = true then atS l else (-1 : Int)), lb (okS l)])) = (List.length (List.map
 syntaxC l) <= 9223372036854775807 -> Zjk l (li 0) (li (-1 : Int)) = Z5f l 0 /\ Zda l (List.length l - 0) (Z5f l 0) /\ LoopSem Tryz.prog (loopAt Tryz.f215 0)
 (Zda l) (Zrc l) /\ (okS l = true -> ObsEq [] [] /\ AV.tup [li (atS l), lb true] = AV.tup [li (if okS l = true then atS l else (-1 : Int)), lb (okS l)]) /\ (okS l = false ->
 ObsEq [] [] /\ AV.tup [li (-1 : Int), lb false] = AV.tup [li (if okS l = true then atS l else (-1 : Int)), lb (okS l)]) /\ True) := by kernel_rfl
theorem Zqc (l : List Syntax)  : Z100 l := by
  refine CallOK.ofRun wide (Z10z l) Tryz.call215 Tryz.func215 rfl rfl rfl ?_
  with_reducible repeat' (first | apply And.intro | exact flatI | exact flatS | exact rowLens | (intro; skip) | apply obsN | apply obsC | apply obA | apply obM | apply obB | apply svA | apply tupA | apply lcA | apply lcS | apply svC | apply liC | apply lbC | apply lsC | apply vIc | apply vBc | apply vSc | apply vLc | apply mapC | apply hdI | apply Zxo | apply Z11a | apply Zt1 | apply Zt2 | apply Z5)
  all_goals (try simp only [std] at *)
  all_goals (try (first | with_reducible apply Z5 | (simp only [<- List.map_append]; first | with_reducible apply Z5)))
  all_goals (try (first | with_reducible rfl | omega | assumption | exact dT ‹_› | exact dF ‹_› | ((first | refine rowGet ?_ | refine getC ?_ rfl); (first | omega | (simp only [std]; omega) | grind)) | (show (_ : St) = _; rfl) | grind [okA, atF, snocI, snocS, rowSnoc]))
abbrev Z101 (l : List Syntax) : Prop := CallOK Tryz.prog 180 [] [ll (l.map syntaxC)] [] (.sv (li (atI l)))
def Zni (l : List Syntax) (x0 : SV) : St := St.mk (regsOf 16 [(5, AV.sv (ll (List.map syntaxC l))), (6, AV.sv (li (↑(List.length (List.map syntaxC l)) : Int))), (7, AV.sv
 x0)]) [] 0 
def Z9g (l : List Syntax) (k : Nat) : St := Zni l (li (k : Int)) 
abbrev Zfb (l : List Syntax) : Nat -> St -> Prop := Head (Z9g l) (fun k => k <= List.length l /\ List.length l <= 9223372036854775807 /\ k <= List.findIdx isDots l) fun k =>
 List.length l - k 
def Zkg (l : List Syntax) : St := St.mk (regsOf 16 []) [] 0 
def Zdg (l : List Syntax) (x0 : SV) : St := St.mk (regsOf 16 [(2, AV.sv x0)]) [] 0 
def Zrd (l : List Syntax) : List (Prop × AEx × St) := [(atI l = (-1 : Int), AEx.exit 0, Zkg l), (True, AEx.ret, Zdg l (li (atI l)))]

theorem Zxp {l : List Syntax} {k : Nat} {x0 : SV} (h0 : x0 = (li (k : Int))) : Zni l x0 = Z9g l k := by
  rw [h0]
  rfl
theorem Zt3 {l : List Syntax} {x0 y0 : SV} (h0 : x0 = y0) : Zdg l x0 = Zdg l y0 := by rw [h0]
theorem Zzf (l : List Syntax) (k : Nat) : aexec Tryz.prog (loopAt Tryz.f180 0) (Z9g l k) [.br [.cells (syntaxF (List.getD l k default)), .call [Mode.rd] []
 (AV.sv (lb (isDots (List.getD l k default)))), .br [.ghost (.sel [] [2]), .out 1] [.ghost (.sel [] [5, 6, 7]), .goto (List.length l - (k + 1)) (Z9g l
 (k + 1))]] [.ghost (.sel [] []), .out 0]] (loopK (Zfb l) (Zrd l) (List.length l - k)) = ((decide ((k : Int) < (↑(List.length (List.map syntaxC l)) : Int)) =
 true -> (0 <= (k : Int) /\ (List.map syntaxC l)[Int.toNat (k : Int)]? = some (syntaxF (List.getD l k default))) /\ Z4k (List.getD l k default) /\ (isDots (List.getD l k
 default) = true -> True /\ Zdg l (li (k : Int)) = Zdg l (li (atI l))) /\ (isDots (List.getD l k default) = false -> rng .i64 ((k : Int) + 1) /\ List.length l - (k
 + 1) < List.length l - k /\ Zni l (li ((k : Int) + 1)) = Z9g l (k + 1) /\ Zfb l (List.length l - (k + 1)) (Z9g l (k + 1)))) /\ (decide ((k : Int) <
 (↑(List.length (List.map syntaxC l)) : Int)) = false -> atI l = (-1 : Int) /\ Zkg l = Zkg l)) := by kernel_rfl
theorem Z11b (l : List Syntax)  : LoopSem Tryz.prog (loopAt Tryz.f180 0) (Zfb l) (Zrd l) := by
  refine LoopSem.ofHead wide fun k h => ⟨_, _, Zzf l k, ?_⟩
  have g1 := @fx_at _ _ isDots l k
  have g2 := @fx_next _ _ isDots l k
  with_reducible repeat' (first | apply And.intro | exact flatI | exact flatS | exact rowLens | (intro; skip) | apply obsN | apply obsC | apply obA | apply obM | apply obB | apply svA | apply tupA | apply lcA | apply lcS | apply svC | apply liC | apply lbC | apply lsC | apply vIc | apply vBc | apply vSc | apply vLc | apply mapC | apply hdI | apply Zxp | apply Zt3 | apply Z0)
  all_goals (try simp only [std] at *)
  all_goals (try (first | with_reducible apply Z0 | (simp only [<- List.map_append]; first | with_reducible apply Z0)))
  all_goals (try (first | with_reducible rfl | omega | assumption | exact dT ‹_› | exact dF ‹_› | ((first | refine rowGet ?_ | refine getC ?_ rfl); (first | omega | (simp only [std]; omega) | grind)) | (show (_ : St) = _; rfl) | grind [atI, snocI, snocS, rowSnoc]))
theorem Z110 (l : List Syntax) : aexec Tryz.prog (Tryz.f180.body.getD .skip) (entry [] [ll (List.map syntaxC l)] 16) [.ghost (.sel [] [5, 6, 7]),
 .loop (List.length l - 0) (Z9g l 0) (Zfb l) [(atI l = (-1 : Int), AEx.exit 0, Zkg l, [.fin []]), (True, AEx.ret, Zdg l (li (atI l)), [.fin []])]]
 (finK Tryz.prog [ResultVar.tmp 2] [] (AV.sv (li (atI l)))) = (List.length (List.map syntaxC l) <= 9223372036854775807 -> Zni l (li 0) = Z9g l 0 /\ Zfb l (List.length l
 - 0) (Z9g l 0) /\ LoopSem Tryz.prog (loopAt Tryz.f180 0) (Zfb l) (Zrd l) /\ (atI l = (-1 : Int) -> ObsEq [] [] /\ AV.sv (li (-1 : Int)) = AV.sv (li (atI l))) /\ (True ->
 ObsEq [] [] /\ AV.sv (li (atI l)) = AV.sv (li (atI l))) /\ True) := by kernel_rfl
theorem Zii (l : List Syntax)  : Z101 l := by
  refine CallOK.ofRun wide (Z110 l) Tryz.call180 Tryz.func180 rfl rfl rfl ?_
  with_reducible repeat' (first | apply And.intro | exact flatI | exact flatS | exact rowLens | (intro; skip) | apply obsN | apply obsC | apply obA | apply obM | apply obB | apply svA | apply tupA | apply lcA | apply lcS | apply svC | apply liC | apply lbC | apply lsC | apply vIc | apply vBc | apply vSc | apply vLc | apply mapC | apply hdI | apply Zxp | apply Z11b | apply Zt3 | apply Z0)
  all_goals (try simp only [std] at *)
  all_goals (try (first | with_reducible apply Z0 | (simp only [<- List.map_append]; first | with_reducible apply Z0)))
  all_goals (try (first | with_reducible rfl | omega | assumption | exact dT ‹_› | exact dF ‹_› | ((first | refine rowGet ?_ | refine getC ?_ rfl); (first | omega | (simp only [std]; omega) | grind)) | (show (_ : St) = _; rfl) | grind [snocI, snocS, rowSnoc]))
def wlk (f : Syntax -> Int -> List Capture -> Option (List Capture)) : List Syntax -> Int -> Int -> Int -> List Capture -> Option (List Capture)
  | [], _, _, _, o => some o
  | x :: r, i, a, d, o => if i = a then wlk f r (i + 1) a d o else match f x (if i + 1 = a then d + 1 else d) o with
    | none => none
    | some o' => wlk f r (i + 1) a d o'
theorem wlk_append (f : Syntax -> Int -> List Capture -> Option (List Capture)) : ∀ (A B : List Syntax) (i a d : Int) (o : List Capture), wlk f (A ++ B) i a d o = match wlk f A i a d o with
    | none => none
    | some o' => wlk f B (i + (A.length : Int)) a d o'
  | [], B, i, a, d, o => by simp [wlk]
  | x :: A, B, i, a, d, o => by
    have e : i + ((x :: A).length : Int) = i + 1 + (A.length : Int) := by simp only [List.length_cons]; omega
    simp only [List.cons_append, wlk, e]
    split
    . exact wlk_append f A B _ a d o
    . split
      . rfl
      . exact wlk_append f A B _ a d _
theorem wlk_step {f : Syntax -> Int -> List Capture -> Option (List Capture)} {l : List Syntax} {k : Nat} {a d : Int} {o o' : List Capture} (h : k < l.length) (e : wlk f (l.take k) 0 a d o = some o') :
    wlk f (l.take (k + 1)) 0 a d o = if (k : Int) = a then some o' else f (l.getD k default) (if (k : Int) + 1 = a then d + 1 else d) o' := by
  rw [take_get h, wlk_append, e]
  have : (0 : Int) + ((l.take k).length : Int) = (k : Int) := by simp; omega
  simp only [this, wlk]
  split
  . rfl
  . cases f (l.getD k default) (if (k : Int) + 1 = a then d + 1 else d) o' <;> rfl
theorem wlk_none {f : Syntax -> Int -> List Capture -> Option (List Capture)} {l : List Syntax} {k : Nat} {a d : Int} {o : List Capture} (e : wlk f (l.take k) 0 a d o = none) : wlk f l 0 a d o = none := by
  have := wlk_append f (l.take k) (l.drop k) 0 a d o
  rw [List.take_append_drop, e] at this; exact this
def cap1 (p : Syntax) (d : Int) : Capture := ⟨p, d, ⟨0, 0, mkS [], [], []⟩, []⟩
mutual
def vrS (Ls : List Syntax) : Syntax -> Int -> List Capture -> Option (List Capture)
  | ⟨k, n, t, s, l⟩, d, o => if k = 1 then (if isUnd ⟨k, n, t, s, l⟩ = true ∨ hasI Ls ⟨k, n, t, s, l⟩ = true then some o else
      if isDots ⟨k, n, t, s, l⟩ = true ∨ 0 <= fnd o ⟨k, n, t, s, l⟩ ∨ 3 < d then none else some (o ++ [cap1 ⟨k, n, t, s, l⟩ d]))
    else if okS l = true then vrSs Ls l 0 (atS l) d o else none
def vrSs (Ls : List Syntax) : List Syntax -> Int -> Int -> Int -> List Capture -> Option (List Capture)
  | [], _, _, _, o => some o
  | x :: r, i, a, d, o => if i = a then vrSs Ls r (i + 1) a d o else match vrS Ls x (if i + 1 = a then d + 1 else d) o with
    | none => none
    | some o' => vrSs Ls r (i + 1) a d o'
end
theorem vrSs_eq (Ls : List Syntax) : ∀ l i a d o, vrSs Ls l i a d o = wlk (vrS Ls) l i a d o
  | [], i, a, d, o => by simp [vrSs, wlk]
  | x :: r, i, a, d, o => by
    simp only [vrSs, wlk, vrSs_eq Ls r]
theorem vrS_eq (Ls : List Syntax) (p : Syntax) (d : Int) (o : List Capture) : vrS Ls p d o = if p.kind = 1 then (if isUnd p = true ∨ hasI Ls p = true then some o else
      if isDots p = true ∨ 0 <= fnd o p ∨ 3 < d then none else some (o ++ [cap1 p d]))
    else if okS p.items = true then wlk (vrS Ls) p.items 0 (atS p.items) d o else none := by cases p; simp only [vrS, vrSs_eq]
theorem wlk_len (f : Syntax -> Int -> List Capture -> Option (List Capture)) : ∀ (l : List Syntax), (∀ x ∈ l, ∀ d o o', f x d o = some o' -> o'.length <= o.length + sizeY x) -> ∀ i a d o o', wlk f l i a d o = some o' -> o'.length <= o.length + sumBy sizeY l
  | [], _, i, a, d, o, o', e => by simp only [wlk, Option.some.injEq] at e; subst e; simp [sumBy]
  | x :: r, h, i, a, d, o, o', e => by
    have ih := wlk_len f r fun y hy => h y (List.mem_cons_of_mem _ hy)
    simp only [wlk] at e
    simp only [sumBy]
    split at e
    . have := ih _ _ _ _ _ e; omega
    . split at e
      . cases e
      . rename_i o1 h1
        have h2 := ih _ _ _ _ _ e
        have h3 := h x List.mem_cons_self _ _ _ h1
        omega
theorem vrS_len (Ls : List Syntax) : ∀ (p : Syntax) (d : Int) (o o' : List Capture), vrS Ls p d o = some o' -> o'.length <= o.length + sizeY p := by
  refine Syntax.ind fun p ih d o o' e => ?_
  rw [vrS_eq] at e
  rw [sizeY_eq]
  split at e
  . split at e
    . simp only [Option.some.injEq] at e; subst e; omega
    . split at e
      . cases e
      . simp only [Option.some.injEq] at e; subst e; simp
  . split at e
    . have := wlk_len (vrS Ls) p.items (fun x hx d o o' h => ih x hx d o o' h) _ _ _ _ _ e; omega
    . cases e
def vaS (Ls : List Syntax) (p : Syntax) (d : Int) (o : List Capture) (k : Nat) : List Capture := if okS p.items = true then (wlk (vrS Ls) (p.items.take k) 0 (atS p.items) d o).getD [] else o
def vbS (Ls : List Syntax) (p : Syntax) (d : Int) (o : List Capture) (k : Nat) : Bool := okS p.items && (wlk (vrS Ls) (p.items.take k) 0 (atS p.items) d o).isSome
theorem vS_stop {Ls : List Syntax} {p : Syntax} {d : Int} {o : List Capture} {k : Nat} (hk : k <= p.items.length) (h : vbS Ls p d o k = false) : vaS Ls p d o k = vaS Ls p d o p.items.length /\ vbS Ls p d o p.items.length = false := by
  unfold vaS vbS at *
  by_cases e : okS p.items = true
  . rw [e] at h
    cases e2 : wlk (vrS Ls) (p.items.take k) 0 (atS p.items) d o with
    | none => rw [if_pos e, if_pos e, List.take_length, wlk_none e2]; simp
    | some v => rw [e2] at h; cases h
  . have e' : okS p.items = false := by simpa using e
    rw [if_neg e, if_neg e, e']; simp
theorem vS_skip {Ls : List Syntax} {p : Syntax} {d : Int} {o : List Capture} {k : Nat} (hk : k < p.items.length) (h : vbS Ls p d o k = true) (e : (k : Int) = atS p.items) : vaS Ls p d o (k + 1) = vaS Ls p d o k /\ vbS Ls p d o (k + 1) = true := by
  unfold vaS vbS at *
  simp only [Bool.and_eq_true] at h
  obtain ⟨v, hv⟩ := Option.isSome_iff_exists.1 h.2
  rw [if_pos h.1, if_pos h.1, wlk_step hk hv, if_pos e, hv, h.1]; simp
theorem vS_go {Ls : List Syntax} {p : Syntax} {d : Int} {o : List Capture} {k : Nat} (hk : k < p.items.length) (h : vbS Ls p d o k = true) (e : ¬ (k : Int) = atS p.items) :
    vaS Ls p d o (k + 1) = (vrS Ls (p.items.getD k default) (if (k : Int) + 1 = atS p.items then d + 1 else d) (vaS Ls p d o k)).getD [] /\ vbS Ls p d o (k + 1) = (vrS Ls (p.items.getD k default) (if (k : Int) + 1 = atS p.items then d + 1 else d) (vaS Ls p d o k)).isSome := by
  unfold vaS vbS at *
  simp only [Bool.and_eq_true] at h
  obtain ⟨v, hv⟩ := Option.isSome_iff_exists.1 h.2
  rw [if_pos h.1, if_pos h.1, wlk_step hk hv, if_neg e, hv, h.1]; simp
theorem vS_len {Ls : List Syntax} {p : Syntax} {d : Int} {o : List Capture} {k : Nat} (h : vbS Ls p d o k = true) : (vaS Ls p d o k).length <= o.length + sumBy sizeY (p.items.take k) := by
  unfold vaS vbS at *
  simp only [Bool.and_eq_true] at h
  obtain ⟨v, hv⟩ := Option.isSome_iff_exists.1 h.2
  rw [if_pos h.1, hv]
  exact wlk_len (vrS Ls) _ (fun x _ d o o' h => vrS_len Ls x d o o' h) _ _ _ _ _ hv
theorem vS_ok {Ls : List Syntax} {p : Syntax} {d : Int} {o : List Capture} {k : Nat} (h : vbS Ls p d o k = true) : okS p.items = true := by
  unfold vbS at h; simp only [Bool.and_eq_true] at h; exact h.1
theorem vS_end (Ls : List Syntax) (p : Syntax) (d : Int) (o : List Capture) (hk : ¬ p.kind = 1) : (vrS Ls p d o).isSome = vbS Ls p d o p.items.length /\ (vbS Ls p d o p.items.length = true -> (vrS Ls p d o).getD [] = vaS Ls p d o p.items.length) /\ (vbS Ls p d o p.items.length = false -> (vrS Ls p d o).getD [] = []) := by
  rw [vrS_eq, if_neg hk]
  unfold vaS vbS
  rw [List.take_length]
  by_cases e : okS p.items = true
  . rw [if_pos e, if_pos e, e]
    cases wlk (vrS Ls) p.items 0 (atS p.items) d o <;> simp
  . have e' : okS p.items = false := by simpa using e
    rw [if_neg e, if_neg e, e']; simp
theorem size_item {p : Syntax} {k : Nat} (h : k < p.items.length) : sumBy sizeY (p.items.take k) + sizeY (p.items.getD k default) + 1 <= sizeY p /\ wY (p.items.getD k default) <= wY p := by
  have g1 := sizeY_eq p
  have g2 := @sumBy_step _ _ sizeY p.items k h
  have g3 := sumBy_takeLe sizeY p.items (k + 1)
  have g4 := @sumBy_mem _ wY p.items _ (getD_mem' h)
  have g5 := wY_eq p
  omega
theorem cap_snoc (o : List Capture) (p : Syntax) (d : Int) : o.map captureC ++ [[cI p.kind, cI p.number, cS p.text, Cell.list (List.map intC p.scopes), Cell.list (List.map syntaxC p.items), cI d, cI 0, cI 0, cS (mkS []), Cell.list [], Cell.list [], Cell.list []]] = (o ++ [cap1 p d]).map captureC :=
  rowSnoc (C := captureC) o (cap1 p d)
theorem vrS_out (Ls : List Syntax) (p : Syntax) (d : Int) (o : List Capture) (hk : p.kind = 1) (h : isUnd p = true ∨ hasI Ls p = true) : vrS Ls p d o = some o := by
  rw [vrS_eq, if_pos hk, if_pos h]
theorem vrS_bad (Ls : List Syntax) (p : Syntax) (d : Int) (o : List Capture) (hk : p.kind = 1) (h : isUnd p = false) (h2 : hasI Ls p = false) (h3 : isDots p = true ∨ 0 <= fnd o p ∨ 3 < d) : vrS Ls p d o = none := by
  rw [vrS_eq, if_pos hk, if_neg (by rw [h, h2]; simp), if_pos h3]
theorem vrS_new (Ls : List Syntax) (p : Syntax) (d : Int) (o : List Capture) (hk : p.kind = 1) (h : isUnd p = false) (h2 : hasI Ls p = false) (h3 : isDots p = false) (h4 : fnd o p < 0) (h5 : d <= 3) : vrS Ls p d o = some (o ++ [cap1 p d]) := by
  rw [vrS_eq, if_pos hk, if_neg (by rw [h, h2]; simp), if_neg (by rw [h3]; simp; omega)]
abbrev Z9b (Ls : List Syntax) (p : Syntax) (d : Int) (o : List Capture) : Prop := CallOK Tryz.prog 154 [.arr true 12 (o.map captureC)] [ll (Ls.map syntaxC), syntaxA p, li d, .one (.ref 0)] [.dead, .arr true 12 (((vrS Ls p d o).getD []).map captureC)] (.tup [.one (.ref 1), lb (vrS Ls p d o).isSome])
def Z8r (Ls : List Syntax) (p : Syntax) (d : Int) (o : List Capture) (x0 : SV) (x1 : SV) (x2 : Ob) : St := St.mk (regsOf 84 [(0, AV.sv (ll (List.map syntaxC Ls))), (2,
 AV.sv (li d)), (3, AV.sv (SV.one (AC.ref 1))), (10, AV.sv (li (if okS (Syntax.items p) = true then atS (Syntax.items p) else (-1 : Int)))), (11, AV.sv x1), (53, AV.sv (ll
 (List.map syntaxC (Syntax.items p)))), (54, AV.sv (li (↑(List.length (List.map syntaxC (Syntax.items p))) : Int))), (55, AV.sv x0)]) [Ob.dead, x2] 1 
def Zf (Ls : List Syntax) (p : Syntax) (d : Int) (o : List Capture) (k : Nat) : St := Z8r Ls p d o (li (k : Int)) (lb (vbS Ls p d o k)) (Ob.arr true 12
 (List.map captureC (vaS Ls p d o k))) 
abbrev Z4m (Ls : List Syntax) (p : Syntax) (d : Int) (o : List Capture) : Nat -> St -> Prop := Head (Zf Ls p d o) (fun k => k <= List.length (Syntax.items p) /\
 List.length (Syntax.items p) <= 9223372036854775807) fun k => List.length (Syntax.items p) - k 
def Z3m (Ls : List Syntax) (p : Syntax) (d : Int) (o : List Capture) (x0 : SV) (x1 : Ob) : St := St.mk (regsOf 84 [(3, AV.sv (SV.one (AC.ref 1))), (11, AV.sv x0)])
 [Ob.dead, x1] 1 
def Zjl (Ls : List Syntax) (p : Syntax) (d : Int) (o : List Capture) : List (Prop × AEx × St) := [(True, AEx.exit 0, Z3m Ls p d o (lb (vbS Ls p d o (List.length
 (Syntax.items p)))) (Ob.arr true 12 (List.map captureC (vaS Ls p d o (List.length (Syntax.items p))))))]

theorem Zpk {Ls : List Syntax} {p : Syntax} {d : Int} {o : List Capture} {k : Nat} {x0 : SV} {x1 : SV} {x2 : Ob} (h0 : x0 = (li (k : Int))) (h1 : x1 = (lb (vbS Ls p d o
 k))) (h2 : x2 = (Ob.arr true 12 (List.map captureC (vaS Ls p d o k)))) : Z8r Ls p d o x0 x1 x2 = Zf Ls p d o k := by
  rw [h0, h1, h2]
  rfl
theorem Zmm {Ls : List Syntax} {p : Syntax} {d : Int} {o : List Capture} {x0 y0 : SV} {x1 y1 : Ob} (h0 : x0 = y0) (h1 : x1 = y1) : Z3m Ls p d o x0 x1 =
 Z3m Ls p d o y0 y1 := by rw [h0, h1]
abbrev Zd (p : Syntax) (k : Nat) := (List.getD (Syntax.items p) k default)
abbrev Z3u (p : Syntax) (k : Nat) := (List.length (Syntax.items p) - (k + 1))
theorem Zt4 (Ls : List Syntax) (p : Syntax) (d : Int) (o : List Capture) (k : Nat) : aexec Tryz.prog (loopAt Tryz.f154 0) (Zf Ls p d o k) [.br [.cells
 (syntaxF (Zd p k)), .br [.ghost (.sel [0, 1] [3, 11]), .out 0] [.br [.ghost (.sel [0, 1] [0, 2, 3, 10, 11, 53, 54, 55]), .goto
 (Z3u p k) (Zf Ls p d o (k + 1))] [.br [.call [Mode.rd, Mode.rd, Mode.rd, Mode.own true 12] [Ob.dead, Ob.arr true 12 (List.map captureC (Option.getD (vrS
 Ls (Zd p k) (d + 1) (vaS Ls p d o k)) []))] (AV.tup [SV.one (AC.ref 1), lb (Option.isSome (vrS Ls (Zd p k) (d + 1) (vaS Ls p d o k)))]), .ghost
 (.sel [0, 4] [0, 2, 3, 10, 11, 53, 54, 55]), .goto (Z3u p k) (Zf Ls p d o (k + 1))] [.call [Mode.rd, Mode.rd, Mode.rd, Mode.own true 12] [Ob.dead,
 Ob.arr true 12 (List.map captureC (Option.getD (vrS Ls (Zd p k) d (vaS Ls p d o k)) []))] (AV.tup [SV.one (AC.ref 1), lb (Option.isSome (vrS Ls (Zd p k) d
 (vaS Ls p d o k)))]), .ghost (.sel [0, 4] [0, 2, 3, 10, 11, 53, 54, 55]), .goto (Z3u p k) (Zf Ls p d o (k + 1))]]]] [.ghost (.sel [0, 1]
 [3, 11]), .out 0]] (loopK (Z4m Ls p d o) (Zjl Ls p d o) (List.length (Syntax.items p) - k)) = ((decide ((k : Int) < (↑(List.length (List.map syntaxC
 (Syntax.items p))) : Int)) = true -> (0 <= (k : Int) /\ (List.map syntaxC (Syntax.items p))[Int.toNat (k : Int)]? = some (syntaxF (Zd p k))) /\ ((!vbS Ls p d o k) = true
 -> True /\ Z3m Ls p d o (lb (vbS Ls p d o k)) (Ob.arr true 12 (List.map captureC (vaS Ls p d o k))) = Z3m Ls p d o (lb (vbS Ls p d o (List.length (Syntax.items
 p)))) (Ob.arr true 12 (List.map captureC (vaS Ls p d o (List.length (Syntax.items p)))))) /\ ((!vbS Ls p d o k) = false -> (decide ((k : Int) = if okS (Syntax.items p) = true then
 atS (Syntax.items p) else (-1 : Int)) = true -> rng .i64 ((k : Int) + 1) /\ List.length (Syntax.items p) - (k + 1) < List.length (Syntax.items p) - k /\ Z8r Ls p d o
 (li ((k : Int) + 1)) (lb (vbS Ls p d o k)) (Ob.arr true 12 (List.map captureC (vaS Ls p d o k))) = Zf Ls p d o (k + 1) /\ Z4m Ls p d o (Z3u p k)
 (Zf Ls p d o (k + 1))) /\ (decide ((k : Int) = if okS (Syntax.items p) = true then atS (Syntax.items p) else (-1 : Int)) = false -> rng .i64 ((k : Int) + 1) /\
 (decide ((k : Int) + 1 = if okS (Syntax.items p) = true then atS (Syntax.items p) else (-1 : Int)) = true -> rng .i64 (d + 1) /\ Z9b Ls (Zd p k) (d + 1)
 (vaS Ls p d o k) /\ rng .i64 ((k : Int) + 1) /\ List.length (Syntax.items p) - (k + 1) < List.length (Syntax.items p) - k /\ Z8r Ls p d o (li ((k : Int) + 1)) (lb
 (Option.isSome (vrS Ls (Zd p k) (d + 1) (vaS Ls p d o k)))) (Ob.arr true 12 (List.map captureC (Option.getD (vrS Ls (Zd p k) (d + 1) (vaS Ls p d o k))
 []))) = Zf Ls p d o (k + 1) /\ Z4m Ls p d o (Z3u p k) (Zf Ls p d o (k + 1))) /\ (decide ((k : Int) + 1 = if okS (Syntax.items p) = true then
 atS (Syntax.items p) else (-1 : Int)) = false -> Z9b Ls (Zd p k) d (vaS Ls p d o k) /\ rng .i64 ((k : Int) + 1) /\ List.length (Syntax.items p) - (k + 1) <
 List.length (Syntax.items p) - k /\ Z8r Ls p d o (li ((k : Int) + 1)) (lb (Option.isSome (vrS Ls (Zd p k) d (vaS Ls p d o k)))) (Ob.arr true 12 (List.map
 captureC (Option.getD (vrS Ls (Zd p k) d (vaS Ls p d o k)) []))) = Zf Ls p d o (k + 1) /\ Z4m Ls p d o (Z3u p k) (Zf Ls p d o (k
 + 1)))))) /\ (decide ((k : Int) < (↑(List.length (List.map syntaxC (Syntax.items p))) : Int)) = false -> True /\ Z3m Ls p d o (lb (vbS Ls p d o k)) (Ob.arr true 12
 (List.map captureC (vaS Ls p d o k))) = Z3m Ls p d o (lb (vbS Ls p d o (List.length (Syntax.items p)))) (Ob.arr true 12 (List.map captureC (vaS Ls p d o (List.length
 (Syntax.items p))))))) := by kernel_rfl
theorem Zxq (Ls : List Syntax) (p : Syntax) (d : Int) (o : List Capture) (h : 0 <= d /\ d + (↑(depY p) : Int) <= 1000 /\ wY p <= 1048576 /\ List.length o + sizeY p <= 2147483647)
 (ih : ∀ (z : Syntax), z ∈ Syntax.items p -> ∀ (Ls : List Syntax) (d : Int) (o : List Capture), 0 <= d /\ d + (↑(depY z) : Int) <= 1000 /\ wY z <= 1048576 /\ List.length o + sizeY z <=
 2147483647 -> Z9b Ls z d o)  : LoopSem Tryz.prog (loopAt Tryz.f154 0) (Z4m Ls p d o) (Zjl Ls p d o) := by
  refine LoopSem.ofHead wide fun k h => ⟨_, _, Zt4 Ls p d o k, ?_⟩
  try delta Zd Z3u
  have g1 := @vS_stop Ls p d o k
  have g2 := @vS_skip Ls p d o k
  have g3 := @vS_go Ls p d o k
  have g4 := @vS_len Ls p d o k
  have g5 := @vS_ok Ls p d o k
  have g6 := @depY_item p k
  have g7 := @size_item p k
  have g8 : k < p.items.length ∨ k = p.items.length ∨ p.items.length < k := by omega
  with_reducible repeat' (first | apply And.intro | exact flatI | exact flatS | exact rowLens | exact ih | (intro; skip) | apply obsN | apply obsC | apply obA | apply obM | apply obB | apply svA | apply tupA | apply lcA | apply lcS | apply svC | apply liC | apply lbC | apply lsC | apply vIc | apply vBc | apply vSc | apply vLc | apply mapC | apply hdI | apply Zpk | apply Zmm | apply Zj3 | apply Z5 | apply Z2f | apply Z1g | apply Zqc | apply ih)
  all_goals (try simp only [std] at *)
  all_goals (try (first | with_reducible apply Zj3 | with_reducible apply Z5 | with_reducible apply Z2f | with_reducible apply Z1g | with_reducible apply Zqc | with_reducible apply ih | (simp only [<- List.map_append]; first | with_reducible apply Zj3 | with_reducible apply Z5 | with_reducible apply Z2f | with_reducible apply Z1g | with_reducible apply Zqc | with_reducible apply ih)))
  all_goals (try (first | with_reducible rfl | omega | assumption | exact dT ‹_› | exact dF ‹_› | ((first | refine rowGet ?_ | refine getC ?_ rfl); (first | omega | (simp only [std]; omega) | grind)) | (show (_ : St) = _; rfl) | grind [getD_mem', snocI, snocS, rowSnoc]))
abbrev Z3c (Ls : List Syntax) (p : Syntax) (d : Int) (o : List Capture) := [Ob.dead, Ob.arr true 12 (List.map captureC (Option.getD (vrS Ls p d o) []))]
abbrev Z3d (Ls : List Syntax) (p : Syntax) (d : Int) (o : List Capture) := [SV.one (AC.ref 1), lb (Option.isSome (vrS Ls p d o))]
theorem Zwb (Ls : List Syntax) (p : Syntax) (d : Int) (o : List Capture) : aexec Tryz.prog (Tryz.f154.body.getD .skip) (entry [Ob.arr true 12 (List.map
 captureC o)] [ll (List.map syntaxC Ls), syntaxA p, li d, SV.one (AC.ref 0)] 84) [.br [.br [.bool true, .ghost (.move 0), .fin [2]] [.call [Mode.rd, Mode.rd]
 [] (AV.sv (lb (hasI Ls p))), .br [.ghost (.move 0), .fin [2]] [.call [Mode.rd] [] (AV.sv (lb (isDots p))), .br [.bool true, .bool true, .ghost
 (.nilreg 8 true 12), .ghost (.move 0), .fin [2]] [.call [Mode.rd, Mode.rd] [] (AV.sv (li (fnd o p))), .br [.bool true, .ghost (.nilreg 8 true 12),
 .ghost (.move 0), .fin [2]] [.br [.ghost (.nilreg 8 true 12), .ghost (.move 0), .fin [2]] [.call [Mode.rd] (syntaxO p) (AV.sv (syntaxR p 0)),
 .fin [5]]]]]]] [.call [Mode.rd] [] (AV.tup [li (if okS (Syntax.items p) = true then atS (Syntax.items p) else (-1 : Int)), lb (okS (Syntax.items p))]), .ghost (.move
 0), .ghost (.sel [0, 2] [0, 2, 3, 10, 11, 53, 54, 55]), .loop (List.length (Syntax.items p) - 0) (Zf Ls p d o 0) (Z4m Ls p d o) [(True, AEx.exit 0,
 Z3m Ls p d o (lb (vbS Ls p d o (List.length (Syntax.items p)))) (Ob.arr true 12 (List.map captureC (vaS Ls p d o (List.length (Syntax.items p))))), [.br [.ghost
 (.nilreg 8 true 12), .fin [2]] [.fin [1]]])]]] (finK Tryz.prog [ResultVar.tmp 8, ResultVar.tmp 9] [Ob.dead, Ob.arr true 12 (List.map captureC (Option.getD (vrS Ls p d
 o) []))] (AV.tup [SV.one (AC.ref 1), lb (Option.isSome (vrS Ls p d o))])) = ((decide (Syntax.kind p = 1) = true -> (decide (Array.toList (ByteArray.data (Syntax.text p)) = [(95 :
 UInt8)]) = true -> true = true /\ ObsEq [Ob.dead, Ob.arr true 12 (List.map captureC o)] (Z3c Ls p d o) /\ AV.tup [SV.one (AC.ref 1), lb true] = AV.tup (Z3d Ls p d
 o)) /\ (decide (Array.toList (ByteArray.data (Syntax.text p)) = [(95 : UInt8)]) = false -> Zvk Ls p /\ (hasI Ls p = true -> ObsEq [Ob.dead, Ob.arr true 12 (List.map captureC o)]
 (Z3c Ls p d o) /\ AV.tup [SV.one (AC.ref 1), lb true] = AV.tup (Z3d Ls p d o)) /\ (hasI Ls p = false -> Z7n p /\ (isDots p = true -> true = true /\ true = true /\
 ObsEq [Ob.dead, Ob.arr true 12 []] (Z3c Ls p d o) /\ AV.tup [SV.one (AC.ref 1), lb false] = AV.tup (Z3d Ls p d o)) /\ (isDots p = false -> Zkc o p /\ (decide
 (0 <= fnd o p) = true -> true = true /\ ObsEq [Ob.dead, Ob.arr true 12 []] (Z3c Ls p d o) /\ AV.tup [SV.one (AC.ref 1), lb false] = AV.tup (Z3d Ls p d o)) /\ (decide
 (0 <= fnd o p) = false -> (decide (3 < d) = true -> ObsEq [Ob.dead, Ob.arr true 12 []] (Z3c Ls p d o) /\ AV.tup [SV.one (AC.ref 1), lb false] = AV.tup (Z3d Ls p d
 o)) /\ (decide (3 < d) = false -> Ze5 p /\ (List.length (List.map captureC o) + 1) * 192 <= 140737488355328 /\ ObsEq [Ob.dead, Ob.arr true 12 (List.map captureC o ++ [[cI
 (Syntax.kind p), cI (Syntax.number p), cS (Syntax.text p), Cell.list (List.map intC (Syntax.scopes p)), Cell.list (List.map syntaxC (Syntax.items p)), cI d, cI 0, cI 0, cS
 (ByteArray.mk #[]), Cell.list [], Cell.list [], Cell.list []]])] (Z3c Ls p d o) /\ AV.tup [SV.one (AC.ref 1), lb true] = AV.tup (Z3d Ls p d o))))))) /\ (decide
 (Syntax.kind p = 1) = false -> Z100 (Syntax.items p) /\ (List.length (List.map syntaxC (Syntax.items p)) <= 9223372036854775807 -> Z8r Ls p d o (li 0) (lb (okS
 (Syntax.items p))) (Ob.arr true 12 (List.map captureC o)) = Zf Ls p d o 0 /\ Z4m Ls p d o (List.length (Syntax.items p) - 0) (Zf Ls p d o 0) /\ LoopSem
 Tryz.prog (loopAt Tryz.f154 0) (Z4m Ls p d o) (Zjl Ls p d o) /\ (True -> ((!vbS Ls p d o (List.length (Syntax.items p))) = true -> ObsEq [Ob.dead, Ob.arr true 12
 []] (Z3c Ls p d o) /\ AV.tup [SV.one (AC.ref 1), lb false] = AV.tup (Z3d Ls p d o)) /\ ((!vbS Ls p d o (List.length (Syntax.items p))) = false -> ObsEq [Ob.dead,
 Ob.arr true 12 (List.map captureC (vaS Ls p d o (List.length (Syntax.items p))))] (Z3c Ls p d o) /\ AV.tup [SV.one (AC.ref 1), lb true] = AV.tup (Z3d Ls p d o)))
 /\ True))) := by kernel_rfl
theorem Z111 (Ls : List Syntax) (p : Syntax) (d : Int) (o : List Capture) (h : 0 <= d /\ d + depY p <= 1000 /\ wY p <= 1048576 /\ o.length + sizeY p <= 2147483647) (ih : ∀ z ∈
 p.items, ∀ (Ls : List Syntax) (d : Int) (o : List Capture) (h : 0 <= d /\ d + depY z <= 1000 /\ wY z <= 1048576 /\ o.length + sizeY z <= 2147483647), Z9b Ls z d o)  : Z9b Ls
 p d o := by
  refine CallOK.ofRun wide (Zwb Ls p d o) Tryz.call154 Tryz.func154 rfl rfl rfl ?_
  try delta Z3c Z3d
  have g1 := vS_end Ls p d o
  have g2 := sizeY_eq p
  have g3 : isUnd p = decide (p.text.data.toList = [95]) := rfl
  have g4 := vrS_out Ls p d o
  have g5 := vrS_bad Ls p d o
  have g6 := vrS_new Ls p d o
  have g7 : ¬p.kind = 1 -> okS p.items = false -> vbS Ls p d o 0 = false := fun _ h => by unfold vbS; rw [h]; rfl
  have g8 : okS p.items = true -> vbS Ls p d o 0 = true := fun h => by unfold vbS; rw [h]; simp [wlk]
  have g9 : vaS Ls p d o 0 = o := by unfold vaS; split <;> simp [wlk]
  have g10 : okS p.items = vbS Ls p d o 0 := by unfold vbS; simp [wlk]
  have g11 := cap_snoc o p d
  have g12 : p.kind = 1 -> isUnd p = false -> hasI Ls p = false -> isDots p = false -> fnd o p < 0 -> d <= 3 -> (vrS Ls p d o).getD [] = o ++ [cap1 p d] := fun a b c e f g => by rw [g6 a b c e f g]; rfl
  with_reducible repeat' (first | apply And.intro | exact flatI | exact flatS | exact rowLens | exact ih | (intro; skip) | apply obsN | apply obsC | apply obA | apply obM | apply obB | apply svA | apply tupA | apply lcA | apply lcS | apply svC | apply liC | apply lbC | apply lsC | apply vIc | apply vBc | apply vSc | apply vLc | apply mapC | apply hdI | apply Zpk | apply Zxq | apply Zmm | apply Zj3 | apply Z5 | apply Z2f | apply Z1g | apply Zqc)
  all_goals (try simp only [std] at *)
  all_goals (try (first | with_reducible apply Zj3 | with_reducible apply Z5 | with_reducible apply Z2f | with_reducible apply Z1g | with_reducible apply Zqc | with_reducible apply ih | (simp only [<- List.map_append]; first | with_reducible apply Zj3 | with_reducible apply Z5 | with_reducible apply Z2f | with_reducible apply Z1g | with_reducible apply Zqc | with_reducible apply ih)))
  all_goals (try (first | with_reducible rfl | omega | assumption | exact dT ‹_› | exact dF ‹_› | ((first | refine rowGet ?_ | refine getC ?_ rfl); (first | omega | (simp only [std]; omega) | grind)) | (show (_ : St) = _; rfl) | grind [snocI, snocS, rowSnoc]))
theorem Zj4 (p : Syntax) : ∀ (Ls : List Syntax) (d : Int) (o : List Capture) (h : 0 <= d /\ d + depY p <= 1000 /\ wY p <= 1048576 /\ o.length + sizeY p <= 2147483647), Z9b Ls p d o := Syntax.ind (P := fun p => ∀ (Ls : List Syntax) (d : Int) (o : List Capture) (h : 0 <= d /\ d + depY p <= 1000 /\ wY p <= 1048576 /\ o.length + sizeY p <= 2147483647), Z9b Ls p d o) (fun p ih Ls d o h => Z111 Ls p d o h ih) p
mutual
def vrI (Ls : List Syntax) : Syntax -> Int -> List Capture -> Option (List Capture)
  | ⟨k, n, t, s, l⟩, d, o => if k = 1 then (if isDots ⟨k, n, t, s, l⟩ = true then none else if isUnd ⟨k, n, t, s, l⟩ = true ∨ hasJ Ls ⟨k, n, t, s, l⟩ = true then some o else
      if 3 < d then none else if (o.any fun c => sameB c.name ⟨k, n, t, s, l⟩) = true then none else some (o ++ [cap1 ⟨k, n, t, s, l⟩ d]))
    else if k ≠ 0 then some o else if atI l = 0 then none else vrIs Ls l 0 (atI l) d o
def vrIs (Ls : List Syntax) : List Syntax -> Int -> Int -> Int -> List Capture -> Option (List Capture)
  | [], _, _, _, o => some o
  | x :: r, i, a, d, o => if i = a then vrIs Ls r (i + 1) a d o else match vrI Ls x (if i + 1 = a then d + 1 else d) o with
    | none => none
    | some o' => vrIs Ls r (i + 1) a d o'
end
theorem vrIs_eq (Ls : List Syntax) : ∀ l i a d o, vrIs Ls l i a d o = wlk (vrI Ls) l i a d o
  | [], i, a, d, o => by simp [vrIs, wlk]
  | x :: r, i, a, d, o => by
    simp only [vrIs, wlk, vrIs_eq Ls r]
theorem vrI_eq (Ls : List Syntax) (p : Syntax) (d : Int) (o : List Capture) : vrI Ls p d o = if p.kind = 1 then (if isDots p = true then none else if isUnd p = true ∨ hasJ Ls p = true then some o else
      if 3 < d then none else if (o.any fun c => sameB c.name p) = true then none else some (o ++ [cap1 p d]))
    else if p.kind ≠ 0 then some o else if atI p.items = 0 then none else wlk (vrI Ls) p.items 0 (atI p.items) d o := by cases p; simp only [vrI, vrIs_eq]
theorem vrI_len (Ls : List Syntax) : ∀ (p : Syntax) (d : Int) (o o' : List Capture), vrI Ls p d o = some o' -> o'.length <= o.length + sizeY p := by
  refine Syntax.ind fun p ih d o o' e => ?_
  rw [vrI_eq] at e
  rw [sizeY_eq]
  split at e
  . split at e
    . cases e
    . split at e
      . simp only [Option.some.injEq] at e; subst e; omega
      . split at e
        . cases e
        . split at e
          . cases e
          . simp only [Option.some.injEq] at e; subst e; simp
  . split at e
    . simp only [Option.some.injEq] at e; subst e; omega
    . split at e
      . cases e
      . have := wlk_len (vrI Ls) p.items (fun x hx d o o' h => ih x hx d o o' h) _ _ _ _ _ e; omega
def wI (Ls : List Syntax) (p : Syntax) (d : Int) (o : List Capture) (k : Nat) : Option (List Capture) := wlk (vrI Ls) (p.items.take k) 0 (atI p.items) d o
def vaI (Ls : List Syntax) (p : Syntax) (d : Int) (o : List Capture) (k : Nat) : List Capture := (wI Ls p d o k).getD []
def vbI (Ls : List Syntax) (p : Syntax) (d : Int) (o : List Capture) (k : Nat) : Bool := (wI Ls p d o k).isSome
theorem vI_skip {Ls : List Syntax} {p : Syntax} {d : Int} {o : List Capture} {k : Nat} (hk : k < p.items.length) (h : vbI Ls p d o k = true) (e : (k : Int) = atI p.items) : vaI Ls p d o (k + 1) = vaI Ls p d o k /\ vbI Ls p d o (k + 1) = true := by
  unfold vaI vbI wI at *
  obtain ⟨v, hv⟩ := Option.isSome_iff_exists.1 h
  rw [wlk_step hk hv, if_pos e, hv]; simp
theorem vI_go {Ls : List Syntax} {p : Syntax} {d : Int} {o : List Capture} {k : Nat} (hk : k < p.items.length) (h : vbI Ls p d o k = true) (e : ¬ (k : Int) = atI p.items) :
    vaI Ls p d o (k + 1) = (vrI Ls (p.items.getD k default) (if (k : Int) + 1 = atI p.items then d + 1 else d) (vaI Ls p d o k)).getD [] /\ vbI Ls p d o (k + 1) = (vrI Ls (p.items.getD k default) (if (k : Int) + 1 = atI p.items then d + 1 else d) (vaI Ls p d o k)).isSome := by
  unfold vaI vbI wI at *
  obtain ⟨v, hv⟩ := Option.isSome_iff_exists.1 h
  rw [wlk_step hk hv, if_neg e, hv]; simp
theorem vI_stop {Ls : List Syntax} {p : Syntax} {d : Int} {o : List Capture} {k : Nat} (h : vbI Ls p d o k = false) : vbI Ls p d o p.items.length = false := by
  unfold vbI wI at *
  cases e2 : wlk (vrI Ls) (p.items.take k) 0 (atI p.items) d o with
  | none => rw [List.take_length, wlk_none e2]; rfl
  | some v => rw [e2] at h; cases h
theorem vI_len {Ls : List Syntax} {p : Syntax} {d : Int} {o : List Capture} {k : Nat} (h : vbI Ls p d o k = true) : (vaI Ls p d o k).length <= o.length + sumBy sizeY (p.items.take k) := by
  unfold vaI vbI wI at *
  obtain ⟨v, hv⟩ := Option.isSome_iff_exists.1 h
  rw [hv]
  exact wlk_len (vrI Ls) _ (fun x _ d o o' h => vrI_len Ls x d o o' h) _ _ _ _ _ hv
theorem vI_end (Ls : List Syntax) (p : Syntax) (d : Int) (o : List Capture) (hk : ¬ p.kind = 1) (h0 : p.kind = 0) (ha : ¬ atI p.items = 0) : (vrI Ls p d o).isSome = vbI Ls p d o p.items.length /\ (vrI Ls p d o).getD [] = vaI Ls p d o p.items.length := by
  rw [vrI_eq, if_neg hk, if_neg (by simp [h0]), if_neg ha]
  unfold vaI vbI wI
  rw [List.take_length]; exact ⟨rfl, rfl⟩
theorem vrI_dots {Ls : List Syntax} {p : Syntax} {d : Int} {o : List Capture} (hk : p.kind = 1) (h : isDots p = true) : vrI Ls p d o = none := by
  rw [vrI_eq, if_pos hk, if_pos h]
theorem vrI_out {Ls : List Syntax} {p : Syntax} {d : Int} {o : List Capture} (hk : p.kind = 1) (h : isDots p = false) (h2 : isUnd p = true ∨ hasJ Ls p = true) : vrI Ls p d o = some o := by
  rw [vrI_eq, if_pos hk, if_neg (by simp [h]), if_pos h2]
theorem vrI_deep {Ls : List Syntax} {p : Syntax} {d : Int} {o : List Capture} (hk : p.kind = 1) (h : isDots p = false) (h2 : isUnd p = false) (h3 : hasJ Ls p = false) (h4 : 3 < d) : vrI Ls p d o = none := by
  rw [vrI_eq, if_pos hk, if_neg (by simp [h]), if_neg (by simp [h2, h3]), if_pos h4]
theorem vrI_twice {Ls : List Syntax} {p : Syntax} {d : Int} {o : List Capture} (hk : p.kind = 1) (h : isDots p = false) (h2 : isUnd p = false) (h3 : hasJ Ls p = false) (h5 : (o.any fun c => sameB c.name p) = true) : vrI Ls p d o = none := by
  rw [vrI_eq, if_pos hk, if_neg (by simp [h]), if_neg (by simp [h2, h3])]
  split
  . rfl
  . first | rfl | rw [if_pos h5]
theorem vrI_new {Ls : List Syntax} {p : Syntax} {d : Int} {o : List Capture} (hk : p.kind = 1) (h : isDots p = false) (h2 : isUnd p = false) (h3 : hasJ Ls p = false) (h4 : d <= 3) (h5 : (o.any fun c => sameB c.name p) = false) : vrI Ls p d o = some (o ++ [cap1 p d]) := by
  rw [vrI_eq, if_pos hk, if_neg (by simp [h]), if_neg (by simp [h2, h3]), if_neg (by omega), if_neg (by simp [h5])]
theorem vrI_other {Ls : List Syntax} {p : Syntax} {d : Int} {o : List Capture} (hk : ¬ p.kind = 1) (h0 : ¬ p.kind = 0) : vrI Ls p d o = some o := by
  rw [vrI_eq, if_neg hk, if_pos h0]
theorem vrI_front {Ls : List Syntax} {p : Syntax} {d : Int} {o : List Capture} (hk : ¬ p.kind = 1) (h0 : p.kind = 0) (ha : atI p.items = 0) : vrI Ls p d o = none := by
  rw [vrI_eq, if_neg hk, if_neg (by simp [h0]), if_pos ha]
abbrev Z7v (Ls : List Syntax) (p : Syntax) (d : Int) (o : List Capture) : Prop := CallOK Tryz.prog 175 [.arr true 12 (o.map captureC)] [ll (Ls.map syntaxC), syntaxA p, li d, .one (.ref 0)] [.dead, .arr true 12 (((vrI Ls p d o).getD []).map captureC)] (.tup [.one (.ref 1), lb (vrI Ls p d o).isSome])
def Z8s (Ls : List Syntax) (p : Syntax) (d : Int) (o : List Capture) (x0 : SV) (x1 : Ob) : St := St.mk (regsOf 93 [(0, AV.sv (ll (List.map syntaxC Ls))), (2, AV.sv (li
 d)), (3, AV.sv (SV.one (AC.ref 1))), (12, AV.sv (li (atI (Syntax.items p)))), (63, AV.sv (ll (List.map syntaxC (Syntax.items p)))), (64, AV.sv (li (↑(List.length (List.map syntaxC
 (Syntax.items p))) : Int))), (65, AV.sv x0)]) [Ob.dead, x1] 1 
def Zg (Ls : List Syntax) (p : Syntax) (d : Int) (o : List Capture) (k : Nat) : St := Z8s Ls p d o (li (k : Int)) (Ob.arr true 12 (List.map captureC (vaI Ls p d
 o k))) 
abbrev Z4n (Ls : List Syntax) (p : Syntax) (d : Int) (o : List Capture) : Nat -> St -> Prop := Head (Zg Ls p d o) (fun k => k <= List.length (Syntax.items p) /\
 List.length (Syntax.items p) <= 9223372036854775807 /\ vbI Ls p d o k = true) fun k => List.length (Syntax.items p) - k 
def Z74 (Ls : List Syntax) (p : Syntax) (d : Int) (o : List Capture) (x0 : Ob) : St := St.mk (regsOf 93 [(3, AV.sv (SV.one (AC.ref 1)))]) [Ob.dead, x0] 1 
def Z75 (Ls : List Syntax) (p : Syntax) (d : Int) (o : List Capture) (x0 : SV) (x1 : SV) : St := St.mk (regsOf 93 [(8, AV.sv x0), (9, AV.sv x1)]) [Ob.dead] 1 
def Zjm (Ls : List Syntax) (p : Syntax) (d : Int) (o : List Capture) : List (Prop × AEx × St) := [(vbI Ls p d o (List.length (Syntax.items p)) = true, AEx.exit 3,
 Z74 Ls p d o (Ob.arr true 12 (List.map captureC (vaI Ls p d o (List.length (Syntax.items p)))))), (vbI Ls p d o (List.length (Syntax.items p)) = false, AEx.ret,
 Z75 Ls p d o (SV.one (AC.val (Cell.lit (Value.slice none 0 0)))) (lb false))]
def Zeb (Ls : List Syntax) (p : Syntax) (d : Int) (o : List Capture) (x0 : SV) : St := St.mk (regsOf 93 [(2, AV.sv (li d)), (3, AV.sv (SV.one (AC.ref 1))), (5, AV.sv
 (SV.one (AC.ptr 2 0))), (34, AV.sv (SV.one (AC.ref 1))), (35, AV.sv (li (↑(List.length (List.map captureC o)) : Int))), (36, AV.sv x0)]) [Ob.dead, Ob.arr true 12 (List.map
 captureC o), Ob.box (vals (syntaxF p))] 1 
def Z3e (Ls : List Syntax) (p : Syntax) (d : Int) (o : List Capture) (k : Nat) : St := Zeb Ls p d o (li (k : Int)) 
abbrev Z8t (Ls : List Syntax) (p : Syntax) (d : Int) (o : List Capture) : Nat -> St -> Prop := Head (Z3e Ls p d o) (fun k => k <= List.length o /\ List.length o <=
 9223372036854775807 /\ (List.any (List.take k o) fun c => sameB (Capture.name c) p) = false) fun k => List.length o - k 
def Zco (Ls : List Syntax) (p : Syntax) (d : Int) (o : List Capture) : St := St.mk (regsOf 93 [(2, AV.sv (li d)), (3, AV.sv (SV.one (AC.ref 1))), (5, AV.sv (SV.one
 (AC.ptr 2 0)))]) [Ob.dead, Ob.arr true 12 (List.map captureC o), Ob.box (vals (syntaxF p))] 1 
def Z3n (Ls : List Syntax) (p : Syntax) (d : Int) (o : List Capture) (x0 : SV) (x1 : SV) : St := St.mk (regsOf 93 [(8, AV.sv x0), (9, AV.sv x1)]) [Ob.dead] 1 
def Zjn (Ls : List Syntax) (p : Syntax) (d : Int) (o : List Capture) : List (Prop × AEx × St) := [((List.any o fun c => sameB (Capture.name c) p) = false, AEx.exit 1,
 Zco Ls p d o), ((List.any o fun c => sameB (Capture.name c) p) = true, AEx.ret, Z3n Ls p d o (SV.one (AC.val (Cell.lit (Value.slice none 0 0)))) (lb false))]

theorem Zjo {Ls : List Syntax} {p : Syntax} {d : Int} {o : List Capture} {k : Nat} {x0 : SV} {x1 : Ob} (h0 : x0 = (li (k : Int))) (h1 : x1 = (Ob.arr true 12 (List.map
 captureC (vaI Ls p d o k)))) : Z8s Ls p d o x0 x1 = Zg Ls p d o k := by
  rw [h0, h1]
  rfl
theorem Zfc {Ls : List Syntax} {p : Syntax} {d : Int} {o : List Capture} {x0 y0 : Ob} (h0 : x0 = y0) : Z74 Ls p d o x0 = Z74 Ls p d o y0 := by rw
 [h0]
theorem Zfd {Ls : List Syntax} {p : Syntax} {d : Int} {o : List Capture} {x0 y0 : SV} {x1 y1 : SV} (h0 : x0 = y0) (h1 : x1 = y1) : Z75 Ls p d o x0 x1 =
 Z75 Ls p d o y0 y1 := by rw [h0, h1]
abbrev a1__iVars_sLb (Ls : List Syntax) (p : Syntax) (d : Int) (o : List Capture) (k : Nat) := (vrI Ls (List.getD (Syntax.items p) k default) (d + 1) (vaI Ls p d o k))
theorem Zt5 (Ls : List Syntax) (p : Syntax) (d : Int) (o : List Capture) (k : Nat) : aexec Tryz.prog (loopAt Tryz.f175 1) (Zg Ls p d o k) [.br [.cells
 (syntaxF (List.getD (Syntax.items p) k default)), .br [.ghost (.sel [0, 1] [0, 2, 3, 12, 63, 64, 65]), .goto (List.length (Syntax.items p) - (k + 1)) (Zg
 Ls p d o (k + 1))] [.br [.call [Mode.rd, Mode.rd, Mode.rd, Mode.own true 12] [Ob.dead, Ob.arr true 12 (List.map captureC (Option.getD (a1__iVars_sLb Ls p d o k) []))]
 (AV.tup [SV.one (AC.ref 1), lb (Option.isSome (a1__iVars_sLb Ls p d o k))]), .br [.ghost (.sel [0] [8, 9]), .out 1] [.ghost (.sel [0, 4] [0, 2, 3, 12, 63,
 64, 65]), .goto (List.length (Syntax.items p) - (k + 1)) (Zg Ls p d o (k + 1))]] [.call [Mode.rd, Mode.rd, Mode.rd, Mode.own true 12] [Ob.dead, Ob.arr true 12
 (List.map captureC (Option.getD (vrI Ls (List.getD (Syntax.items p) k default) d (vaI Ls p d o k)) []))] (AV.tup [SV.one (AC.ref 1), lb (Option.isSome (vrI Ls (List.getD
 (Syntax.items p) k default) d (vaI Ls p d o k)))]), .br [.ghost (.sel [0] [8, 9]), .out 1] [.ghost (.sel [0, 4] [0, 2, 3, 12, 63, 64, 65]), .goto
 (List.length (Syntax.items p) - (k + 1)) (Zg Ls p d o (k + 1))]]]] [.ghost (.sel [0, 1] [3]), .out 0]] (loopK (Z4n Ls p d o) (Zjm Ls p d o)
 (List.length (Syntax.items p) - k)) = ((decide ((k : Int) < (↑(List.length (List.map syntaxC (Syntax.items p))) : Int)) = true -> (0 <= (k : Int) /\ (List.map syntaxC (Syntax.items
 p))[Int.toNat (k : Int)]? = some (syntaxF (List.getD (Syntax.items p) k default))) /\ (decide ((k : Int) = atI (Syntax.items p)) = true -> rng .i64 ((k : Int) + 1) /\
 List.length (Syntax.items p) - (k + 1) < List.length (Syntax.items p) - k /\ Z8s Ls p d o (li ((k : Int) + 1)) (Ob.arr true 12 (List.map captureC (vaI Ls p d o k))) =
 Zg Ls p d o (k + 1) /\ Z4n Ls p d o (List.length (Syntax.items p) - (k + 1)) (Zg Ls p d o (k + 1))) /\ (decide ((k : Int) = atI (Syntax.items p)) =
 false -> rng .i64 ((k : Int) + 1) /\ (decide ((k : Int) + 1 = atI (Syntax.items p)) = true -> rng .i64 (d + 1) /\ Z7v Ls (List.getD (Syntax.items p) k default)
 (d + 1) (vaI Ls p d o k) /\ ((!Option.isSome (a1__iVars_sLb Ls p d o k)) = true -> vbI Ls p d o (List.length (Syntax.items p)) = false /\ Z3n Ls p d o (SV.one (AC.val
 (Cell.lit (Value.slice none 0 0)))) (lb false) = Z75 Ls p d o (SV.one (AC.val (Cell.lit (Value.slice none 0 0)))) (lb false)) /\ ((!Option.isSome (a1__iVars_sLb Ls p d o
 k)) = false -> rng .i64 ((k : Int) + 1) /\ List.length (Syntax.items p) - (k + 1) < List.length (Syntax.items p) - k /\ Z8s Ls p d o (li ((k : Int) + 1)) (Ob.arr
 true 12 (List.map captureC (Option.getD (a1__iVars_sLb Ls p d o k) []))) = Zg Ls p d o (k + 1) /\ Z4n Ls p d o (List.length (Syntax.items p) - (k + 1))
 (Zg Ls p d o (k + 1)))) /\ (decide ((k : Int) + 1 = atI (Syntax.items p)) = false -> Z7v Ls (List.getD (Syntax.items p) k default) d (vaI Ls p d o k) /\
 ((!Option.isSome (vrI Ls (List.getD (Syntax.items p) k default) d (vaI Ls p d o k))) = true -> vbI Ls p d o (List.length (Syntax.items p)) = false /\ Z3n Ls p d o (SV.one
 (AC.val (Cell.lit (Value.slice none 0 0)))) (lb false) = Z75 Ls p d o (SV.one (AC.val (Cell.lit (Value.slice none 0 0)))) (lb false)) /\ ((!Option.isSome (vrI Ls
 (List.getD (Syntax.items p) k default) d (vaI Ls p d o k))) = false -> rng .i64 ((k : Int) + 1) /\ List.length (Syntax.items p) - (k + 1) < List.length (Syntax.items p) - k
 /\ Z8s Ls p d o (li ((k : Int) + 1)) (Ob.arr true 12 (List.map captureC (Option.getD (vrI Ls (List.getD (Syntax.items p) k default) d (vaI Ls p d o k)) []))) =
 Zg Ls p d o (k + 1) /\ Z4n Ls p d o (List.length (Syntax.items p) - (k + 1)) (Zg Ls p d o (k + 1)))))) /\ (decide ((k : Int) < (↑(List.length (List.map
 syntaxC (Syntax.items p))) : Int)) = false -> vbI Ls p d o (List.length (Syntax.items p)) = true /\ Z74 Ls p d o (Ob.arr true 12 (List.map captureC (vaI Ls p d o k))) =
 Z74 Ls p d o (Ob.arr true 12 (List.map captureC (vaI Ls p d o (List.length (Syntax.items p))))))) := by kernel_rfl

theorem Zjp {Ls : List Syntax} {p : Syntax} {d : Int} {o : List Capture} {k : Nat} {x0 : SV} (h0 : x0 = (li (k : Int))) : Zeb Ls p d o x0 = Z3e Ls p d o
 k := by
  rw [h0]
  rfl
theorem Zfe {Ls : List Syntax} {p : Syntax} {d : Int} {o : List Capture} {x0 y0 : SV} {x1 y1 : SV} (h0 : x0 = y0) (h1 : x1 = y1) : Z3n Ls p d o x0 x1 =
 Z3n Ls p d o y0 y1 := by rw [h0, h1]
abbrev Z3v (o : List Capture) (k : Nat) := (List.getD o (Int.toNat (↑k : Int)) default)
abbrev Zbj (p : Syntax) (o : List Capture) (k : Nat) := (decide (Syntax.kind (Capture.name (Z3v o k)) = 1) && decide (Syntax.kind p = 1) && decide
 (Syntax.text (Capture.name (Z3v o k)) = Syntax.text p) && decide (Syntax.scopes (Capture.name (Z3v o k)) = Syntax.scopes p))
theorem Zt6 (Ls : List Syntax) (p : Syntax) (d : Int) (o : List Capture) (k : Nat) : aexec Tryz.prog (loopAt Tryz.f175 0) (Z3e Ls p d o k) [.br [.cells
 (captureF (Z3v o k)), .call [Mode.rd, Mode.rd] [] (AV.sv (lb (Zbj p o k))), .br [.ghost (.sel [0] [8, 9]), .out 1] [.ghost (.sel [0,
 1, 2] [2, 3, 5, 34, 35, 36]), .goto (List.length o - (k + 1)) (Z3e Ls p d o (k + 1))]] [.ghost (.sel [0, 1, 2] [2, 3, 5]), .out 0]] (loopK (Z8t Ls
 p d o) (Zjn Ls p d o) (List.length o - k)) = ((decide ((k : Int) < (↑(List.length (List.map captureC o)) : Int)) = true -> (0 <= (k : Int) /\ Int.toNat (k : Int) <
 List.length (List.map captureC o)) /\ (List.map captureC o)[Int.toNat (k : Int)]? = some (captureF (Z3v o k)) /\ Zkb (Capture.name (Z3v o k)) p /\
 ((Zbj p o k) = true -> (List.any o fun c => sameB (Capture.name c) p) = true /\ Z3n Ls p d o (SV.one (AC.val (Cell.lit (Value.slice none 0 0)))) (lb false) =
 Z3n Ls p d o (SV.one (AC.val (Cell.lit (Value.slice none 0 0)))) (lb false)) /\ ((Zbj p o k) = false -> rng .i64 ((k : Int) + 1) /\ List.length o - (k +
 1) < List.length o - k /\ Zeb Ls p d o (li ((k : Int) + 1)) = Z3e Ls p d o (k + 1) /\ Z8t Ls p d o (List.length o - (k + 1)) (Z3e Ls p d o (k +
 1)))) /\ (decide ((k : Int) < (↑(List.length (List.map captureC o)) : Int)) = false -> (List.any o fun c => sameB (Capture.name c) p) = false /\ Zco Ls p d o =
 Zco Ls p d o)) := by kernel_rfl
theorem Zpl (Ls : List Syntax) (p : Syntax) (d : Int) (o : List Capture) (h : 0 <= d /\ d + (↑(depY p) : Int) <= 1000 /\ wY p <= 1048576 /\ List.length o + sizeY p <= 2147483647)
 (ih : ∀ (z : Syntax), z ∈ Syntax.items p -> ∀ (Ls : List Syntax) (d : Int) (o : List Capture), 0 <= d /\ d + (↑(depY z) : Int) <= 1000 /\ wY z <= 1048576 /\ List.length o + sizeY z <=
 2147483647 -> Z7v Ls z d o)  : LoopSem Tryz.prog (loopAt Tryz.f175 1) (Z4n Ls p d o) (Zjm Ls p d o) := by
  refine LoopSem.ofHead wide fun k h => ⟨_, _, Zt5 Ls p d o k, ?_⟩
  try delta a1__iVars_sLb
  have g1 := @vI_stop Ls p d o (k + 1)
  have g2 := @vI_skip Ls p d o k
  have g3 := @vI_go Ls p d o k
  have g4 := @vI_len Ls p d o k
  have g6 := @depY_item p k
  have g7 := @size_item p k
  have g8 : k < p.items.length ∨ k = p.items.length ∨ p.items.length < k := by omega
  with_reducible repeat' (first | apply And.intro | exact flatI | exact flatS | exact rowLens | exact ih | (intro; skip) | apply obsN | apply obsC | apply obA | apply obM | apply obB | apply svA | apply tupA | apply lcA | apply lcS | apply svC | apply liC | apply lbC | apply lsC | apply vIc | apply vBc | apply vSc | apply vLc | apply mapC | apply hdI | apply Zjp | apply Zjo | apply Zfc | apply Zfd | apply Zfe | apply Z0 | apply Z3t | apply Zbi | apply Z1d | apply Z2y | apply Zii | apply ih)
  all_goals (try simp only [std] at *)
  all_goals (try (first | with_reducible apply Z0 | with_reducible apply Z3t | with_reducible apply Zbi | with_reducible apply Z1d | with_reducible apply Z2y | with_reducible apply Zii | with_reducible apply ih | (simp only [<- List.map_append]; first | with_reducible apply Z0 | with_reducible apply Z3t | with_reducible apply Zbi | with_reducible apply Z1d | with_reducible apply Z2y | with_reducible apply Zii | with_reducible apply ih)))
  all_goals (try (first | with_reducible rfl | omega | assumption | exact dT ‹_› | exact dF ‹_› | ((first | refine rowGet ?_ | refine getC ?_ rfl); (first | omega | (simp only [std]; omega) | grind)) | (show (_ : St) = _; rfl) | grind [getD_mem', snocI, snocS, rowSnoc]))
theorem Zxr (Ls : List Syntax) (p : Syntax) (d : Int) (o : List Capture) (h : 0 <= d /\ d + (↑(depY p) : Int) <= 1000 /\ wY p <= 1048576 /\ List.length o + sizeY p <= 2147483647)
 (ih : ∀ (z : Syntax), z ∈ Syntax.items p -> ∀ (Ls : List Syntax) (d : Int) (o : List Capture), 0 <= d /\ d + (↑(depY z) : Int) <= 1000 /\ wY z <= 1048576 /\ List.length o + sizeY z <=
 2147483647 -> Z7v Ls z d o)  : LoopSem Tryz.prog (loopAt Tryz.f175 0) (Z8t Ls p d o) (Zjn Ls p d o) := by
  refine LoopSem.ofHead wide fun k h => ⟨_, _, Zt6 Ls p d o k, ?_⟩
  try delta Z3v Zbj
  have g : k < o.length -> sameB (o.getD k default).name p = true -> (o.any fun c => sameB c.name p) = true := fun h1 h2 => by
    rw [List.any_eq_true]; exact ⟨_, getD_mem' h1, h2⟩
  have g2 : sameB (o.getD k default).name p = (decide ((o.getD k default).name.kind = 1) && decide (p.kind = 1) && decide ((o.getD k default).name.text = p.text) && decide ((o.getD k default).name.scopes = p.scopes)) := rfl
  with_reducible repeat' (first | apply And.intro | exact flatI | exact flatS | exact rowLens | exact ih | (intro; skip) | apply obsN | apply obsC | apply obA | apply obM | apply obB | apply svA | apply tupA | apply lcA | apply lcS | apply svC | apply liC | apply lbC | apply lsC | apply vIc | apply vBc | apply vSc | apply vLc | apply mapC | apply hdI | apply Zjp | apply Zjo | apply Zpl | apply Zfc | apply Zfd | apply Zfe | apply Z0 | apply Z3t | apply Zbi | apply Z1d | apply Z2y | apply Zii)
  all_goals (try simp only [std] at *)
  all_goals (try (first | with_reducible apply Z0 | with_reducible apply Z3t | with_reducible apply Zbi | with_reducible apply Z1d | with_reducible apply Z2y | with_reducible apply Zii | with_reducible apply ih | (simp only [<- List.map_append]; first | with_reducible apply Z0 | with_reducible apply Z3t | with_reducible apply Zbi | with_reducible apply Z1d | with_reducible apply Z2y | with_reducible apply Zii | with_reducible apply ih)))
  all_goals (try (first | with_reducible rfl | omega | assumption | exact dT ‹_› | exact dF ‹_› | ((first | refine rowGet ?_ | refine getC ?_ rfl); (first | omega | (simp only [std]; omega) | grind)) | (show (_ : St) = _; rfl) | grind [take_get, snocI, snocS, rowSnoc]))
abbrev Z1p (Ls : List Syntax) (p : Syntax) (d : Int) (o : List Capture) := [Ob.dead, Ob.arr true 12 (List.map captureC (Option.getD (vrI Ls p d o) []))]
abbrev Z1q (Ls : List Syntax) (p : Syntax) (d : Int) (o : List Capture) := [SV.one (AC.ref 1), lb (Option.isSome (vrI Ls p d o))]
theorem Zwc (Ls : List Syntax) (p : Syntax) (d : Int) (o : List Capture) : aexec Tryz.prog (Tryz.f175.body.getD .skip) (entry [Ob.arr true 12 (List.map
 captureC o)] [ll (List.map syntaxC Ls), syntaxA p, li d, SV.one (AC.ref 0)] 93) [.br [.call [Mode.rd] [] (AV.sv (lb (isDots p))), .br [.ghost (.nilreg 8 true 12),
 .ghost (.move 0), .fin [2]] [.call [Mode.rd] [] (AV.sv (lb (decide (Syntax.kind p = 1) && isUnd p))), .br [.bool true, .ghost (.move 0), .fin [2]]
 [.call [Mode.rd, Mode.rd] [] (AV.sv (lb (hasJ Ls p))), .br [.ghost (.move 0), .fin [2]] [.br [.ghost (.nilreg 8 true 12), .ghost (.move 0),
 .fin [2]] [.ghost (.move 0), .ghost (.sel [0, 2, 1] [2, 3, 5, 34, 35, 36]), .loop (List.length o - 0) (Z3e Ls p d o 0) (Z8t Ls p d o)
 [((List.any o fun c => sameB (Capture.name c) p) = false, AEx.exit 1, Zco Ls p d o, [.call [Mode.rd] (syntaxO p) (AV.sv (syntaxR p 0)), .fin [6]]), ((List.any o
 fun c => sameB (Capture.name c) p) = true, AEx.ret, Z3n Ls p d o (SV.one (AC.val (Cell.lit (Value.slice none 0 0)))) (lb false), [.ghost (.nilreg 8 true 12),
 .fin [1]])]]]]]] [.br [.ghost (.move 0), .fin [2]] [.call [Mode.rd] [] (AV.sv (li (atI (Syntax.items p)))), .br [.ghost (.nilreg 8 true 12),
 .ghost (.move 0), .fin [2]] [.ghost (.move 0), .ghost (.sel [0, 2] [0, 2, 3, 12, 63, 64, 65]), .loop (List.length (Syntax.items p) - 0) (Zg
 Ls p d o 0) (Z4n Ls p d o) [(vbI Ls p d o (List.length (Syntax.items p)) = true, AEx.exit 3, Z74 Ls p d o (Ob.arr true 12 (List.map captureC (vaI Ls p d o
 (List.length (Syntax.items p))))), [.fin [1]]), (vbI Ls p d o (List.length (Syntax.items p)) = false, AEx.ret, Z75 Ls p d o (SV.one (AC.val (Cell.lit (Value.slice
 none 0 0)))) (lb false), [.ghost (.nilreg 8 true 12), .fin [1]])]]]]] (finK Tryz.prog [ResultVar.tmp 8, ResultVar.tmp 9] [Ob.dead, Ob.arr true 12 (List.map captureC
 (Option.getD (vrI Ls p d o) []))] (AV.tup [SV.one (AC.ref 1), lb (Option.isSome (vrI Ls p d o))])) = ((decide (Syntax.kind p = 1) = true -> Z4k p /\ (isDots p = true -> ObsEq
 [Ob.dead, Ob.arr true 12 []] (Z1p Ls p d o) /\ AV.tup [SV.one (AC.ref 1), lb false] = AV.tup (Z1q Ls p d o)) /\ (isDots p = false -> Zpf p /\ ((decide
 (Syntax.kind p = 1) && isUnd p) = true -> true = true /\ ObsEq [Ob.dead, Ob.arr true 12 (List.map captureC o)] (Z1p Ls p d o) /\ AV.tup [SV.one (AC.ref 1), lb true] = AV.tup
 (Z1q Ls p d o)) /\ ((decide (Syntax.kind p = 1) && isUnd p) = false -> Zvl Ls p /\ (hasJ Ls p = true -> ObsEq [Ob.dead, Ob.arr true 12 (List.map captureC o)]
 (Z1p Ls p d o) /\ AV.tup [SV.one (AC.ref 1), lb true] = AV.tup (Z1q Ls p d o)) /\ (hasJ Ls p = false -> (decide (3 < d) = true -> ObsEq [Ob.dead, Ob.arr true 12 []]
 (Z1p Ls p d o) /\ AV.tup [SV.one (AC.ref 1), lb false] = AV.tup (Z1q Ls p d o)) /\ (decide (3 < d) = false -> List.length (List.map captureC o) <=
 9223372036854775807 -> Zeb Ls p d o (li 0) = Z3e Ls p d o 0 /\ Z8t Ls p d o (List.length o - 0) (Z3e Ls p d o 0) /\ LoopSem Tryz.prog (loopAt
 Tryz.f175 0) (Z8t Ls p d o) (Zjn Ls p d o) /\ ((List.any o fun c => sameB (Capture.name c) p) = false -> Znd p /\ (List.length (List.map captureC o) + 1) *
 192 <= 140737488355328 /\ ObsEq [Ob.dead, Ob.arr true 12 (List.map captureC o ++ [[cI (Syntax.kind p), cI (Syntax.number p), cS (Syntax.text p), Cell.list (List.map intC
 (Syntax.scopes p)), Cell.list (List.map syntaxC (Syntax.items p)), cI d, cI 0, cI 0, cS (ByteArray.mk #[]), Cell.list [], Cell.list [], Cell.list []]])] (Z1p Ls p d o) /\
 AV.tup [SV.one (AC.ref 1), lb true] = AV.tup (Z1q Ls p d o)) /\ ((List.any o fun c => sameB (Capture.name c) p) = true -> ObsEq [Ob.dead, Ob.arr true 12 []] (Z1p
 Ls p d o) /\ AV.tup [SV.one (AC.ref 1), lb false] = AV.tup (Z1q Ls p d o)) /\ True))))) /\ (decide (Syntax.kind p = 1) = false -> (decide (Syntax.kind p ≠ 0) = true -> ObsEq
 [Ob.dead, Ob.arr true 12 (List.map captureC o)] (Z1p Ls p d o) /\ AV.tup [SV.one (AC.ref 1), lb true] = AV.tup (Z1q Ls p d o)) /\ (decide (Syntax.kind p ≠ 0) =
 false -> Z101 (Syntax.items p) /\ (decide (atI (Syntax.items p) = 0) = true -> ObsEq [Ob.dead, Ob.arr true 12 []] (Z1p Ls p d o) /\ AV.tup [SV.one (AC.ref 1), lb false] =
 AV.tup (Z1q Ls p d o)) /\ (decide (atI (Syntax.items p) = 0) = false -> List.length (List.map syntaxC (Syntax.items p)) <= 9223372036854775807 -> Z8s Ls p d o (li 0)
 (Ob.arr true 12 (List.map captureC o)) = Zg Ls p d o 0 /\ Z4n Ls p d o (List.length (Syntax.items p) - 0) (Zg Ls p d o 0) /\ LoopSem Tryz.prog (loopAt
 Tryz.f175 1) (Z4n Ls p d o) (Zjm Ls p d o) /\ (vbI Ls p d o (List.length (Syntax.items p)) = true -> ObsEq [Ob.dead, Ob.arr true 12 (List.map captureC (vaI Ls p d
 o (List.length (Syntax.items p))))] (Z1p Ls p d o) /\ AV.tup [SV.one (AC.ref 1), lb true] = AV.tup (Z1q Ls p d o)) /\ (vbI Ls p d o (List.length (Syntax.items p))
 = false -> ObsEq [Ob.dead, Ob.arr true 12 []] (Z1p Ls p d o) /\ AV.tup [SV.one (AC.ref 1), lb false] = AV.tup (Z1q Ls p d o)) /\ True)))) := by kernel_rfl
theorem Z112 (Ls : List Syntax) (p : Syntax) (d : Int) (o : List Capture) (h : 0 <= d /\ d + depY p <= 1000 /\ wY p <= 1048576 /\ o.length + sizeY p <= 2147483647) (ih : ∀ z ∈
 p.items, ∀ (Ls : List Syntax) (d : Int) (o : List Capture) (h : 0 <= d /\ d + depY z <= 1000 /\ wY z <= 1048576 /\ o.length + sizeY z <= 2147483647), Z7v Ls z d o)  : Z7v Ls
 p d o := by
  refine CallOK.ofRun wide (Zwc Ls p d o) Tryz.call175 Tryz.func175 rfl rfl rfl ?_
  try delta Z1p Z1q
  have g1 := vI_end Ls p d o
  have g2 := sizeY_eq p
  have g3 := @vrI_dots Ls p d o
  have g4 := @vrI_out Ls p d o
  have g5 := @vrI_deep Ls p d o
  have g6 := @vrI_twice Ls p d o
  have g7 := @vrI_new Ls p d o
  have g8 := @vrI_other Ls p d o
  have g9 := @vrI_front Ls p d o
  have g10 : vbI Ls p d o 0 = true := by unfold vbI wI; simp [wlk]
  have g11 : vaI Ls p d o 0 = o := by unfold vaI wI; simp [wlk]
  have g12 := cap_snoc o p d
  have g13 : isUnd p = decide (p.text.data.toList = [95]) := rfl
  have g14 : p.kind = 1 -> isDots p = false -> isUnd p = false -> hasJ Ls p = false -> d <= 3 -> (o.any fun c => sameB c.name p) = false -> (vrI Ls p d o).getD [] = o ++ [cap1 p d] := fun a b c e f g => by rw [g7 a b c e f g]; rfl
  have g15 : (vrI Ls p d o).isSome = false -> (vrI Ls p d o).getD [] = [] := fun h => by cases e : vrI Ls p d o <;> simp_all
  with_reducible repeat' (first | apply And.intro | exact flatI | exact flatS | exact rowLens | exact ih | (intro; skip) | apply obsN | apply obsC | apply obA | apply obM | apply obB | apply svA | apply tupA | apply lcA | apply lcS | apply svC | apply liC | apply lbC | apply lsC | apply vIc | apply vBc | apply vSc | apply vLc | apply mapC | apply hdI | apply Zjp | apply Zxr | apply Zjo | apply Zpl | apply Zfc | apply Zfd | apply Zfe | apply Z0 | apply Z3t | apply Zbi | apply Z1d | apply Z2y | apply Zii)
  all_goals (try simp only [std] at *)
  all_goals (try (first | with_reducible apply Z0 | with_reducible apply Z3t | with_reducible apply Zbi | with_reducible apply Z1d | with_reducible apply Z2y | with_reducible apply Zii | with_reducible apply ih | (simp only [<- List.map_append]; first | with_reducible apply Z0 | with_reducible apply Z3t | with_reducible apply Zbi | with_reducible apply Z1d | with_reducible apply Z2y | with_reducible apply Zii | with_reducible apply ih)))
  all_goals (try (first | with_reducible rfl | omega | assumption | exact dT ‹_› | exact dF ‹_› | ((first | refine rowGet ?_ | refine getC ?_ rfl); (first | omega | (simp only [std]; omega) | grind)) | (show (_ : St) = _; rfl) | grind [snocI, snocS, rowSnoc]))
theorem Zua (p : Syntax) : ∀ (Ls : List Syntax) (d : Int) (o : List Capture) (h : 0 <= d /\ d + depY p <= 1000 /\ wY p <= 1048576 /\ o.length + sizeY p <= 2147483647), Z7v Ls p d o := Syntax.ind (P := fun p => ∀ (Ls : List Syntax) (d : Int) (o : List Capture) (h : 0 <= d /\ d + depY p <= 1000 /\ wY p <= 1048576 /\ o.length + sizeY p <= 2147483647), Z7v Ls p d o) (fun p ih Ls d o h => Z112 Ls p d o h ih) p
theorem hasI_hasJ {Ls : List Syntax} {p : Syntax} (hL : ∀ x ∈ Ls, litP x = true) (hk : p.kind = 1) : hasI Ls p = hasJ Ls p := by
  unfold hasI hasJ
  rw [Bool.eq_iff_iff]; simp only [List.any_eq_true]
  constructor
  . rintro ⟨x, hx, e⟩
    have := hL x hx
    simp only [litP_at, Bool.and_eq_true, decide_eq_true_eq] at this e
    exact ⟨x, hx, by simp only [sameB, Bool.and_eq_true, decide_eq_true_eq]; exact ⟨⟨⟨this.1.1.1, hk⟩, e.1⟩, e.2⟩⟩
  . rintro ⟨x, hx, e⟩
    simp only [sameB, Bool.and_eq_true, decide_eq_true_eq] at e
    exact ⟨x, hx, by simp only [Bool.and_eq_true, decide_eq_true_eq]; exact ⟨e.1.2, e.2⟩⟩
theorem lit_dots {Ls : List Syntax} {p : Syntax} (hL : ∀ x ∈ Ls, litP x = true) (hd : isDots p = true) : hasI Ls p = false /\ isUnd p = false := by
  simp only [isDots, Bool.and_eq_true, decide_eq_true_eq] at hd
  constructor
  . unfold hasI; rw [List.any_eq_false]
    intro x hx e
    have := hL x hx
    simp only [litP_at, Bool.and_eq_true, decide_eq_true_eq, Bool.not_eq_true', isDots, Bool.and_eq_false_iff, decide_eq_false_iff_not] at this e
    rcases this.1.2 with h | h
    . exact h this.1.1.1
    . exact h (by rw [e.1]; exact hd.2)
  . unfold isUnd; rw [hd.2]; rfl
theorem fnd_any {o : List Capture} {p : Syntax} (ho : ∀ x ∈ o, isId x.name = true) (hk : p.kind = 1) (hd : isDots p = false) : (o.any fun c => sameB c.name p) = true ↔ 0 <= fnd o p := by
  have h1 : fndN o p < o.length ↔ ∃ x ∈ o, capFor p x = true := List.findIdx_lt_length
  have h2 : (o.any fun c => sameB c.name p) = true ↔ fndN o p < o.length := by
    rw [h1, List.any_eq_true]
    constructor
    . rintro ⟨x, hx, e⟩
      refine ⟨x, hx, ?_⟩
      simp only [sameB, Bool.and_eq_true, decide_eq_true_eq] at e
      simp only [capFor, Bool.and_eq_true, decide_eq_true_eq]
      exact ⟨⟨e.1.2, e.2⟩, ho x hx⟩
    . rintro ⟨x, hx, e⟩
      refine ⟨x, hx, ?_⟩
      simp only [capFor, isId, Bool.and_eq_true, decide_eq_true_eq] at e
      simp only [sameB, Bool.and_eq_true, decide_eq_true_eq]
      exact ⟨⟨⟨e.2.1, hk⟩, e.1.1⟩, e.1.2⟩
  rw [h2]; unfold fnd; rw [hd]
  simp only [true_and]
  split <;> omega
theorem fx_ge {α : Type} [Inhabited α] {p : α -> Bool} {L : List α} : ∀ k, k <= L.length -> (∀ j, j < k -> p (L.getD j default) = false) -> k <= L.findIdx p
  | 0, _, _ => Nat.zero_le _
  | k + 1, hk, h => fx_next (by omega) (fx_ge k (by omega) fun j hj => h j (by omega)) (h k (by omega))
theorem okA_at (l : List Syntax) : ∀ k, k <= l.length -> okA l k = true -> (atF l k = -1 /\ ∀ j, j < k -> isDots (l.getD j default) = false) ∨ ∃ m : Nat, 0 < m /\ m < k /\ atF l k = m /\ isDots (l.getD m default) = true /\ ∀ j, j < k -> j ≠ m -> isDots (l.getD j default) = false
  | 0, _, _ => .inl ⟨rfl, fun j h => absurd h (by omega)⟩
  | k + 1, hk, h => by
    simp only [okA, Bool.and_eq_true, Bool.or_eq_true, Bool.not_eq_true', decide_eq_true_eq] at h
    have ih := okA_at l k (by omega) h.1
    cases e : isDots (l.getD k default) with
    | false =>
      have e2 : atF l (k + 1) = atF l k := by simp only [atF, e]; rfl
      rcases ih with ⟨h1, h2⟩ | ⟨m, h1, h2, h3, h4, h5⟩
      . exact .inl ⟨by rw [e2]; exact h1, fun j hj => by
          by_cases ej : j = k
          . rw [ej]; exact e
          . exact h2 j (by omega)⟩
      . exact .inr ⟨m, h1, by omega, by rw [e2]; exact h3, h4, fun j hj hm => by
          by_cases ej : j = k
          . rw [ej]; exact e
          . exact h5 j (by omega) hm⟩
    | true =>
      have e2 : atF l (k + 1) = (k : Int) := by simp only [atF, e]; rfl
      rcases h.2 with h0 | ⟨h0, h0'⟩
      . rw [e] at h0; cases h0
      . rcases ih with ⟨h1, h2⟩ | ⟨m, h1, h2, h3, h4, h5⟩
        . exact .inr ⟨k, by omega, by omega, e2, e, fun j hj hm => h2 j (by omega)⟩
        . omega
theorem atI_at {l : List Syntax} {m : Nat} (hm : m < l.length) (h : isDots (l.getD m default) = true) (h2 : ∀ j, j < m -> isDots (l.getD j default) = false) : atI l = m := by
  have := fx_at hm (fx_ge m (by omega) h2) h
  unfold atI; rw [this, if_pos hm]
theorem atI_ok {l : List Syntax} (h : okS l = true) : atI l = atS l /\ atI l ≠ 0 := by
  rcases okA_at l l.length (Nat.le_refl _) h with ⟨h1, h2⟩ | ⟨m, h1, h2, h3, h4, h5⟩
  . have := fx_ge (p := isDots) l.length (Nat.le_refl _) h2
    have e : atI l = -1 := by unfold atI; rw [if_neg (by omega)]
    exact ⟨by rw [e]; exact h1.symm, by omega⟩
  . have e := atI_at h2 h4 fun j hj => h5 j (by omega) (by omega)
    exact ⟨by rw [e]; exact h3.symm, by omega⟩
theorem atI_bad {l : List Syntax} (h : okS l = false) : atI l = 0 ∨ ∃ j, j < l.length /\ (j : Int) ≠ atI l /\ isDots (l.getD j default) = true := by
  have : ∃ k, k < l.length /\ okA l k = true /\ okA l (k + 1) = false := by
    have : ∀ m, m <= l.length -> okA l m = false -> ∃ k, k < m /\ okA l k = true /\ okA l (k + 1) = false := by
      intro m
      induction m with
      | zero => intro _ e; cases e
      | succ m ih =>
        intro hm e
        cases e2 : okA l m with
        | true => exact ⟨m, by omega, e2, e⟩
        | false => obtain ⟨k, h1, h2⟩ := ih (by omega) e2; exact ⟨k, by omega, h2⟩
    obtain ⟨k, h1, h2⟩ := this l.length (Nat.le_refl _) h
    exact ⟨k, h1, h2⟩
  obtain ⟨k, hk, h1, h2⟩ := this
  have hd : isDots (l.getD k default) = true /\ (k = 0 ∨ 0 <= atF l k) := by
    simp only [okA, h1, Bool.true_and, Bool.or_eq_false_iff, Bool.not_eq_false', Bool.and_eq_false_iff, decide_eq_false_iff_not] at h2
    exact ⟨h2.1, h2.2.elim (fun h => .inl (by omega)) fun h => .inr (by omega)⟩
  rcases hd.2 with e | e
  . subst e
    exact .inl (atI_at hk hd.1 fun j hj => absurd hj (Nat.not_lt_zero j))
  . rcases okA_at l k (by omega) h1 with ⟨h3, _⟩ | ⟨m, h3, h4, h5, h6, h7⟩
    . omega
    . have e := atI_at (by omega) h6 fun j hj => h7 j (by omega) (by omega)
      exact .inr ⟨k, hk, by omega, hd.1⟩
theorem wlk_same {f g : Syntax -> Int -> List Capture -> Option (List Capture)} {good : List Capture -> Prop} : ∀ (l : List Syntax), (∀ x ∈ l, ∀ d o, good o -> f x d o = g x d o /\ ∀ o', g x d o = some o' -> good o') -> ∀ i a d o, good o -> wlk f l i a d o = wlk g l i a d o /\ ∀ o', wlk g l i a d o = some o' -> good o'
  | [], _, i, a, d, o, ho => ⟨rfl, fun o' e => by simp only [wlk, Option.some.injEq] at e; subst e; exact ho⟩
  | x :: r, h, i, a, d, o, ho => by
    have ih := wlk_same r fun y hy => h y (List.mem_cons_of_mem _ hy)
    simp only [wlk]
    by_cases e : i = a
    . rw [if_pos e, if_pos e]; exact ih _ _ _ _ ho
    . rw [if_neg e, if_neg e]
      have hx := h x List.mem_cons_self (if i + 1 = a then d + 1 else d) o ho
      rw [hx.1]
      cases e2 : g x (if i + 1 = a then d + 1 else d) o with
      | none => exact ⟨rfl, fun o' e => by cases e⟩
      | some o1 => exact ih _ _ _ _ (hx.2 o1 e2)
theorem wlk_bad {f : Syntax -> Int -> List Capture -> Option (List Capture)} : ∀ (l : List Syntax) (j : Nat) (i a d : Int) (o : List Capture), j < l.length -> i + (j : Int) ≠ a -> (∀ d o, f (l.getD j default) d o = none) -> wlk f l i a d o = none
  | [], j, _, _, _, _, h, _, _ => absurd h (by simp)
  | x :: r, 0, i, a, d, o, _, h1, h2 => by
    simp only [wlk]
    rw [if_neg (by omega)]
    have := h2 (if i + 1 = a then d + 1 else d) o
    simp only [List.getD_cons_zero] at this
    rw [this]
  | x :: r, j + 1, i, a, d, o, h, h1, h2 => by
    have ih := fun d o => wlk_bad r j (i + 1) a d o (by simpa using h) (by omega) (by simpa using h2)
    simp only [wlk]
    split
    . exact ih d o
    . split
      . rfl
      . exact ih d _
theorem isId_sym {p : Syntax} (h : okY p = true) (hk : p.kind = 1) : isId p = true := by
  have hi := okY_sym h hk
  simp only [isId, isSyn, Bool.and_eq_true, decide_eq_true_eq]
  refine ⟨hk, ⟨?_, ?_⟩, h⟩
  . rw [sizeY_eq, hi]; simp [sumBy]
  . rw [depY_eq, hi]; simp [maxBy]
theorem okY_kind {p : Syntax} (h : okY p = true) (h1 : ¬ p.kind = 1) (h0 : ¬ p.kind = 0) : p.items = [] := by
  rw [okY_eq] at h
  simp only [nodY0, nodD, Bool.and_eq_true, Bool.or_eq_true, decide_eq_true_eq] at h
  have : p.items.length = 0 := by omega
  exact List.length_eq_zero_iff.1 this
theorem vr_same {Ls : List Syntax} (hL : ∀ x ∈ Ls, litP x = true) : ∀ p : Syntax, okY p = true -> ∀ d o, (∀ x ∈ o, isId x.name = true) -> vrI Ls p d o = vrS Ls p d o /\ ∀ o', vrS Ls p d o = some o' -> ∀ x ∈ o', isId x.name = true := by
  refine Syntax.ind fun p ih h d o ho => ?_
  by_cases hk : p.kind = 1
  . have hn : ∀ x ∈ o ++ [cap1 p d], isId x.name = true := by
      intro x hx
      rcases List.mem_append.1 hx with hx | hx
      . exact ho x hx
      . rw [List.mem_singleton.1 hx]; exact isId_sym h hk
    cases hd : isDots p with
    | true =>
      have h1 := lit_dots hL hd
      rw [vrI_dots hk hd, vrS_bad Ls p d o hk h1.2 h1.1 (.inl hd)]
      exact ⟨rfl, fun o' e => by cases e⟩
    | false =>
      have hj := hasI_hasJ hL hk
      by_cases h1 : isUnd p = true ∨ hasI Ls p = true
      . rw [vrI_out hk hd (hj ▸ h1), vrS_out Ls p d o hk h1]
        exact ⟨rfl, fun o' e => by simp only [Option.some.injEq] at e; subst e; exact ho⟩
      . have hu : isUnd p = false := by cases e : isUnd p <;> simp_all
        have hI : hasI Ls p = false := by cases e : hasI Ls p <;> simp_all
        have hJ : hasJ Ls p = false := by rw [<- hj]; exact hI
        by_cases h3 : 3 < d
        . rw [vrI_deep hk hd hu hJ h3, vrS_bad Ls p d o hk hu hI (.inr (.inr h3))]
          exact ⟨rfl, fun o' e => by cases e⟩
        . have hf := fnd_any ho hk hd
          cases h5 : (o.any fun c => sameB c.name p) with
          | true =>
            rw [vrI_twice hk hd hu hJ h5, vrS_bad Ls p d o hk hu hI (.inr (.inl (hf.1 h5)))]
            exact ⟨rfl, fun o' e => by cases e⟩
          | false =>
            have h6 : fnd o p < 0 := by
              by_cases h6 : fnd o p < 0
              . exact h6
              . rw [hf.2 (by omega)] at h5; cases h5
            rw [vrI_new hk hd hu hJ (by omega) h5, vrS_new Ls p d o hk hu hI hd h6 (by omega)]
            exact ⟨rfl, fun o' e => by simp only [Option.some.injEq] at e; subst e; exact hn⟩
  . by_cases h0 : p.kind = 0
    . rw [vrS_eq, if_neg hk]
      cases hs : okS p.items with
      | true =>
        have ha := atI_ok hs
        rw [vrI_eq, if_neg hk, if_neg (by simp [h0]), if_neg ha.2, if_pos rfl, ha.1]
        exact wlk_same (good := fun o => ∀ x ∈ o, isId x.name = true) p.items (fun x hx d o ho => ih x hx (okY_item h x hx) d o ho) _ _ _ _ ho
      | false =>
        refine ⟨?_, fun o' e => by simp at e⟩
        rw [if_neg (by simp)]
        rcases atI_bad hs with ha | ⟨j, hj, hja, hjd⟩
        . exact vrI_front hk h0 ha
        . rw [vrI_eq, if_neg hk, if_neg (by simp [h0])]
          split
          . rfl
          . refine wlk_bad p.items j _ _ _ _ hj (by omega) fun d o => vrI_dots ?_ hjd
            simp only [isDots, Bool.and_eq_true, decide_eq_true_eq] at hjd; exact hjd.1
    . have hi := okY_kind h hk h0
      rw [vrI_other hk h0, vrS_eq, if_neg hk, hi]
      simp only [okS, List.length_nil, okA, if_true, wlk]
      exact ⟨trivial, fun o' e => by simp only [Option.some.injEq] at e; subst e; exact ho⟩
theorem vr_top {Ls : List Syntax} {p : Syntax} (hL : okL Ls = true) (hp : isSyn p = true) : vrI Ls p 0 [] = vrS Ls p 0 [] := by
  simp only [okL, Bool.and_eq_true, List.all_eq_true] at hL
  simp only [isSyn, Bool.and_eq_true] at hp
  exact (vr_same hL.1 p hp.2 0 [] (fun x hx => by cases hx)).1
abbrev Zxs (Ls : List Syntax) (p : Syntax) : Prop := CallOK Tryz.prog 99 [] [ll (Ls.map syntaxC), syntaxA p] [.arr true 12 ((if okL Ls = true /\ isSyn p = true then (vrS Ls p 0 []).getD [] else []).map captureC)] (.tup [.one (.ref 0), lb (okL Ls && isSyn p && (vrS Ls p 0 []).isSome)])
abbrev Zh1 (Ls : List Syntax) (p : Syntax) := [Ob.arr true 12 (List.map captureC (if okL Ls = true ∧ isSyn p = true then Option.getD (vrS Ls p 0 []) [] else []))]
abbrev Zh2 (Ls : List Syntax) (p : Syntax) := [SV.one (AC.ref 0), lb (okL Ls && isSyn p && Option.isSome (vrS Ls p 0 []))]
theorem Z10c (Ls : List Syntax) (p : Syntax) : aexec Tryz.prog (Tryz.f99.body.getD .skip) (entry [] [ll (List.map syntaxC Ls), syntaxA p] 19) [.call
 [Mode.rd] [] (AV.sv (lb (okL Ls))), .br [.bool true, .ghost (.nilreg 4 true 12), .fin [1]] [.call [Mode.rd] [] (AV.sv (lb (isSyn p))), .br [.ghost
 (.nilreg 4 true 12), .fin [1]] [.call [Mode.rd, Mode.rd, Mode.rd, Mode.own true 12] [Ob.dead, Ob.arr true 12 (List.map captureC (Option.getD (vrI Ls p 0 []) []))]
 (AV.tup [SV.one (AC.ref 1), lb (Option.isSome (vrI Ls p 0 []))]), .fin [2]]]] (finK Tryz.prog [ResultVar.tmp 4, ResultVar.tmp 5] (Zh1 Ls p) (AV.tup (Zh2 Ls p))) =
 (Zpg Ls /\ ((!okL Ls) = true -> true = true /\ ObsEq [Ob.arr true 12 []] (Zh1 Ls p) /\ AV.tup [SV.one (AC.ref 0), lb false] = AV.tup (Zh2 Ls p)) /\ ((!okL Ls) = false
 -> Z9l p /\ ((!isSyn p) = true -> ObsEq [Ob.arr true 12 []] (Zh1 Ls p) /\ AV.tup [SV.one (AC.ref 0), lb false] = AV.tup (Zh2 Ls p)) /\ ((!isSyn p) = false ->
 Z7v Ls p 0 [] /\ ObsEq [Ob.arr true 12 (List.map captureC (Option.getD (vrI Ls p 0 []) []))] (Zh1 Ls p) /\ AV.tup [SV.one (AC.ref 0), lb (Option.isSome (vrI Ls p 0 []))]
 = AV.tup (Zh2 Ls p)))) := by kernel_rfl
theorem Zmn (Ls : List Syntax) (p : Syntax) (h : wY p <= 1048576)  : Zxs Ls p := by
  refine CallOK.ofRun wide (Z10c Ls p) Tryz.call99 Tryz.func99 rfl rfl rfl ?_
  try delta Zh1 Zh2
  have g : isSyn p = true -> sizeY p <= 2000 /\ depY p <= 40 := fun h => by simp only [isSyn, Bool.and_eq_true, decide_eq_true_eq] at h; exact ⟨h.1.1, h.1.2⟩
  have g2 := @vr_top Ls p
  with_reducible repeat' (first | apply And.intro | exact flatI | exact flatS | exact rowLens | (intro; skip) | apply obsN | apply obsC | apply obA | apply obM | apply obB | apply svA | apply tupA | apply lcA | apply lcS | apply svC | apply liC | apply lbC | apply lsC | apply vIc | apply vBc | apply vSc | apply vLc | apply mapC | apply Zbf | apply Za | apply Zua)
  all_goals (try simp only [std] at *)
  all_goals (try (first | with_reducible apply Zbf | with_reducible apply Za | with_reducible apply Zua | (simp only [<- List.map_append]; first | with_reducible apply Zbf | with_reducible apply Za | with_reducible apply Zua)))
  all_goals (try (first | with_reducible rfl | omega | assumption | exact dT ‹_› | exact dF ‹_› | ((first | refine rowGet ?_ | refine getC ?_ rfl); (first | omega | (simp only [std]; omega) | grind)) | (show (_ : St) = _; rfl) | grind [snocI, snocS, rowSnoc]))
end Go.Proofs.YtegbadciefljcaaGreat
end
section
namespace Go.Proofs.YtegbadciefljcaaGreat
open Go Go.Proofs.YtegbadciefljcaaGreat.Ab
set_option linter.unusedVariables false
set_option linter.unusedSimpArgs false
set_option maxHeartbeats 4000000
set_option maxRecDepth 20000
def tlY (s : Syntax) : Syntax := ⟨0, 0, mkS [], [], s.items.drop 1⟩
theorem sizeY_le (s : Syntax) : sizeY s <= wY s + 1 := by
  refine Syntax.ind (P := fun s => sizeY s <= wY s + 1) (fun s ih => ?_) s
  have : ∀ L : List Syntax, (∀ x ∈ L, sizeY x <= wY x + 1) -> sumBy sizeY L <= L.length + sumBy wY L := by
    intro L
    induction L with
    | nil => intro _; simp [sumBy]
    | cons x r ihr =>
      intro h
      have h1 := h x List.mem_cons_self
      have h2 := ihr fun y hy => h y (List.mem_cons_of_mem _ hy)
      simp only [sumBy, List.length_cons]; omega
  have h1 := this s.items ih
  have h2 := wY_eq s
  rw [sizeY_eq]; omega
theorem tlY_syn {s : Syntax} (h : isSyn s = true) : isSyn (tlY s) = true := by
  simp only [isSyn, Bool.and_eq_true, decide_eq_true_eq] at h ⊢
  have e : s.items = s.items.take 1 ++ s.items.drop 1 := (List.take_append_drop 1 s.items).symm
  have h1 : sumBy sizeY s.items = sumBy sizeY (s.items.take 1) + sumBy sizeY (s.items.drop 1) := by rw [<- sumBy_append, <- e]
  have h2 : maxBy depY s.items = max (maxBy depY (s.items.take 1)) (maxBy depY (s.items.drop 1)) := by rw [<- maxBy_append, <- e]
  have h3 := sizeY_eq s
  have h4 := depY_eq s
  have h5 := okY_item h.2
  refine ⟨⟨?_, ?_⟩, ?_⟩
  . rw [sizeY_eq]; simp only [tlY]; omega
  . rw [depY_eq]; simp only [tlY]; omega
  . rw [okY_eq, Bool.and_eq_true, List.all_eq_true]
    refine ⟨fun x hx => h5 x (List.mem_of_mem_drop hx), ?_⟩
    simp [tlY, nodY0, nodD, okSc, okScN, mkS]
theorem tlY_w (s : Syntax) : wY (tlY s) <= wY s := by
  have e : s.items = s.items.take 1 ++ s.items.drop 1 := (List.take_append_drop 1 s.items).symm
  have h1 : sumBy wY s.items = sumBy wY (s.items.take 1) + sumBy wY (s.items.drop 1) := by rw [<- sumBy_append, <- e]
  have h2 := wY_eq s
  have h3 := wY_eq (tlY s)
  have h4 : (tlY s).text.size = 0 := rfl
  have h5 : (s.items.drop 1).length <= s.items.length := by rw [List.length_drop]; omega
  simp only [tlY, List.length_nil] at h3 h4
  rw [tlY]; omega
abbrev Zvm (s : Syntax) : Prop := CallOK Tryz.prog 155 [] [syntaxA s] [] (.sv (.agg [vI 0, vI 0, vS (mkS []), .val (.lit (.slice none 0 0)), vL ((s.items.drop 1).map syntaxC)]))
theorem Zzg (s : Syntax) : aexec Tryz.prog (Tryz.f155.body.getD .skip) (entry [] [syntaxA s] 7) [.fin []] (finK Tryz.prog [ResultVar.cell 2 66] []
 (AV.sv (SV.agg [vI 0, vI 0, vS (mkS []), AC.val (Cell.lit (Value.slice none 0 0)), vL (List.map syntaxC (List.drop 1 (Syntax.items s)))]))) = ((0 : Int) <= 1 /\ (1 <= List.length
 (List.map syntaxC (Syntax.items s)) /\ List.length (List.map syntaxC (Syntax.items s)) <= List.length (List.map syntaxC (Syntax.items s)) /\ ∀ (e : List Cell), e ∈ List.map syntaxC
 (Syntax.items s) -> List.length e = 5) /\ ObsEq [] [] /\ AV.sv (SV.agg [vI 0, vI 0, vS (ByteArray.mk #[]), AC.val (Cell.lit (Value.slice none 0 0)), vL (List.take (List.length
 (List.map syntaxC (Syntax.items s)) - 1) (List.drop 1 (List.map syntaxC (Syntax.items s))))]) = AV.sv (SV.agg [vI 0, vI 0, vS (mkS []), AC.val (Cell.lit (Value.slice none 0 0)),
 vL (List.map syntaxC (List.drop 1 (Syntax.items s)))])) := by kernel_rfl
theorem Zj5 (s : Syntax) (h : 1 <= s.items.length)  : Zvm s := by
  refine CallOK.ofRun wide (Zzg s) Tryz.call155 Tryz.func155 rfl rfl rfl ?_
  have e : (s.items.drop 1).take (s.items.length - 1) = s.items.drop 1 := List.take_of_length_le (by rw [List.length_drop]; omega)
  with_reducible repeat' (first | apply And.intro | exact flatI | exact flatS | exact rowLens | (intro; skip) | apply obsN | apply obsC | apply obA | apply obM | apply obB | apply svA | apply tupA | apply lcA | apply lcS | apply svC | apply liC | apply lbC | apply lsC | apply vIc | apply vBc | apply vSc | apply vLc | apply mapC)
  all_goals (try simp only [std] at *)
  all_goals (try (first | with_reducible rfl | omega | assumption | exact dT ‹_› | exact dF ‹_› | ((first | refine rowGet ?_ | refine getC ?_ rfl); (first | omega | (simp only [std]; omega) | grind)) | (show (_ : St) = _; rfl) | grind [snocI, snocS, rowSnoc]))
abbrev Zvn (s : Syntax) : Prop := CallOK Tryz.prog 163 [] [syntaxA s] [] (.sv (.agg [vI 0, vI 0, vS (mkS []), .val (.lit (.slice none 0 0)), vL ((s.items.drop 1).map syntaxC)]))
theorem Zzh (s : Syntax) : aexec Tryz.prog (Tryz.f163.body.getD .skip) (entry [] [syntaxA s] 7) [.fin []] (finK Tryz.prog [ResultVar.cell 2 66] []
 (AV.sv (SV.agg [vI 0, vI 0, vS (mkS []), AC.val (Cell.lit (Value.slice none 0 0)), vL (List.map syntaxC (List.drop 1 (Syntax.items s)))]))) = ((0 : Int) <= 1 /\ (1 <= List.length
 (List.map syntaxC (Syntax.items s)) /\ List.length (List.map syntaxC (Syntax.items s)) <= List.length (List.map syntaxC (Syntax.items s)) /\ ∀ (e : List Cell), e ∈ List.map syntaxC
 (Syntax.items s) -> List.length e = 5) /\ ObsEq [] [] /\ AV.sv (SV.agg [vI 0, vI 0, vS (ByteArray.mk #[]), AC.val (Cell.lit (Value.slice none 0 0)), vL (List.take (List.length
 (List.map syntaxC (Syntax.items s)) - 1) (List.drop 1 (List.map syntaxC (Syntax.items s))))]) = AV.sv (SV.agg [vI 0, vI 0, vS (mkS []), AC.val (Cell.lit (Value.slice none 0 0)),
 vL (List.map syntaxC (List.drop 1 (Syntax.items s)))])) := by kernel_rfl
theorem Zj6 (s : Syntax) (h : 1 <= s.items.length)  : Zvn s := by
  refine CallOK.ofRun wide (Zzh s) Tryz.call163 Tryz.func163 rfl rfl rfl ?_
  have e : (s.items.drop 1).take (s.items.length - 1) = s.items.drop 1 := List.take_of_length_le (by rw [List.length_drop]; omega)
  with_reducible repeat' (first | apply And.intro | exact flatI | exact flatS | exact rowLens | (intro; skip) | apply obsN | apply obsC | apply obA | apply obM | apply obB | apply svA | apply tupA | apply lcA | apply lcS | apply svC | apply liC | apply lbC | apply lsC | apply vIc | apply vBc | apply vSc | apply vLc | apply mapC)
  all_goals (try simp only [std] at *)
  all_goals (try (first | with_reducible rfl | omega | assumption | exact dT ‹_› | exact dF ‹_› | ((first | refine rowGet ?_ | refine getC ?_ rfl); (first | omega | (simp only [std]; omega) | grind)) | (show (_ : St) = _; rfl) | grind [snocI, snocS, rowSnoc]))
abbrev Z7w (s : Syntax) : Prop := CallOK Tryz.prog 157 [] [syntaxA s] [] (.sv (li (sizeY s)))
def Zcp (s : Syntax) (x0 : SV) (x1 : SV) : St := St.mk (regsOf 19 [(3, AV.sv x1), (7, AV.sv (ll (List.map syntaxC (Syntax.items s)))), (8, AV.sv (li (↑(List.length
 (List.map syntaxC (Syntax.items s))) : Int))), (9, AV.sv x0)]) [] 0 
def Z2j (s : Syntax) (k : Nat) : St := Zcp s (li (k : Int)) (li (↑(1 + sumBy sizeY (List.take k (Syntax.items s))) : Int)) 
abbrev Z76 (s : Syntax) : Nat -> St -> Prop := Head (Z2j s) (fun k => k <= List.length (Syntax.items s) /\ List.length (Syntax.items s) <= 9223372036854775807) fun k =>
 List.length (Syntax.items s) - k 
def Z6a (s : Syntax) (x0 : SV) : St := St.mk (regsOf 19 [(3, AV.sv x0)]) [] 0 
def Zhc (s : Syntax) : List (Prop × AEx × St) := [(True, AEx.exit 0, Z6a s (li (↑(1 + sumBy sizeY (Syntax.items s)) : Int)))]

theorem Zo5 {s : Syntax} {k : Nat} {x0 : SV} {x1 : SV} (h0 : x0 = (li (k : Int))) (h1 : x1 = (li (↑(1 + sumBy sizeY (List.take k (Syntax.items s))) : Int))) :
 Zcp s x0 x1 = Z2j s k := by
  rw [h0, h1]
  rfl
theorem Zkh {s : Syntax} {x0 y0 : SV} (h0 : x0 = y0) : Z6a s x0 = Z6a s y0 := by rw [h0]
theorem Zre (s : Syntax) (k : Nat) : aexec Tryz.prog (loopAt Tryz.f157 0) (Z2j s k) [.br [.cells (syntaxF (List.getD (Syntax.items s) k default)),
 .call [Mode.rd] [] (AV.sv (li (↑(sizeY (List.getD (Syntax.items s) k default)) : Int))), .ghost (.sel [] [3, 7, 8, 9]), .goto (List.length (Syntax.items s) - (k +
 1)) (Z2j s (k + 1))] [.ghost (.sel [] [3]), .out 0]] (loopK (Z76 s) (Zhc s) (List.length (Syntax.items s) - k)) = ((decide ((k : Int) <
 (↑(List.length (List.map syntaxC (Syntax.items s))) : Int)) = true -> (0 <= (k : Int) /\ (List.map syntaxC (Syntax.items s))[Int.toNat (k : Int)]? = some (syntaxF (List.getD
 (Syntax.items s) k default))) /\ Z7w (List.getD (Syntax.items s) k default) /\ rng .i64 ((↑(1 + sumBy sizeY (List.take k (Syntax.items s))) : Int) + (↑(sizeY
 (List.getD (Syntax.items s) k default)) : Int)) /\ rng .i64 ((k : Int) + 1) /\ List.length (Syntax.items s) - (k + 1) < List.length (Syntax.items s) - k /\ Zcp s
 (li ((k : Int) + 1)) (li ((↑(1 + sumBy sizeY (List.take k (Syntax.items s))) : Int) + (↑(sizeY (List.getD (Syntax.items s) k default)) : Int))) = Z2j s (k + 1) /\
 Z76 s (List.length (Syntax.items s) - (k + 1)) (Z2j s (k + 1))) /\ (decide ((k : Int) < (↑(List.length (List.map syntaxC (Syntax.items s))) : Int)) = false ->
 True /\ Z6a s (li (↑(1 + sumBy sizeY (List.take k (Syntax.items s))) : Int)) = Z6a s (li (↑(1 + sumBy sizeY (Syntax.items s)) : Int)))) := by kernel_rfl
theorem Zwd (s : Syntax) (h : wY s <= 1048576) (ih : ∀ (z : Syntax), z ∈ Syntax.items s -> wY z <= 1048576 -> Z7w z)  : LoopSem Tryz.prog (loopAt Tryz.f157 0)
 (Z76 s) (Zhc s) := by
  refine LoopSem.ofHead wide fun k h => ⟨_, _, Zre s k, ?_⟩
  have g1 := wY_eq s
  have g2 := @sumBy_mem _ wY s.items (s.items.getD k default)
  have g3 := @sumBy_step _ _ sizeY s.items k
  have g4 := sumBy_takeLe sizeY s.items (k + 1)
  have g5 := sizeY_le s
  have g6 := sizeY_eq s
  have g7 : s.items.length <= k -> s.items.take k = s.items := fun h => List.take_of_length_le h
  with_reducible repeat' (first | apply And.intro | exact flatI | exact flatS | exact rowLens | exact ih | (intro; skip) | apply obsN | apply obsC | apply obA | apply obM | apply obB | apply svA | apply tupA | apply lcA | apply lcS | apply svC | apply liC | apply lbC | apply lsC | apply vIc | apply vBc | apply vSc | apply vLc | apply mapC | apply hdI | apply Zo5 | apply Zkh | apply ih)
  all_goals (try simp only [std] at *)
  all_goals (try (first | with_reducible apply ih | (simp only [<- List.map_append]; first | with_reducible apply ih)))
  all_goals (try (first | with_reducible rfl | omega | assumption | exact dT ‹_› | exact dF ‹_› | ((first | refine rowGet ?_ | refine getC ?_ rfl); (first | omega | (simp only [std]; omega) | grind)) | (show (_ : St) = _; rfl) | grind [getD_mem', snocI, snocS, rowSnoc]))
theorem Zub (s : Syntax) : aexec Tryz.prog (Tryz.f157.body.getD .skip) (entry [] [syntaxA s] 19) [.ghost (.sel [] [3, 7, 8, 9]), .loop
 (List.length (Syntax.items s) - 0) (Z2j s 0) (Z76 s) [(True, AEx.exit 0, Z6a s (li (↑(1 + sumBy sizeY (Syntax.items s)) : Int)), [.fin []])]]
 (finK Tryz.prog [ResultVar.tmp 2] [] (AV.sv (li (↑(sizeY s) : Int)))) = (List.length (List.map syntaxC (Syntax.items s)) <= 9223372036854775807 -> Zcp s (li 0) (li 1) =
 Z2j s 0 /\ Z76 s (List.length (Syntax.items s) - 0) (Z2j s 0) /\ LoopSem Tryz.prog (loopAt Tryz.f157 0) (Z76 s) (Zhc s) /\ (True ->
 ObsEq [] [] /\ AV.sv (li (↑(1 + sumBy sizeY (Syntax.items s)) : Int)) = AV.sv (li (↑(sizeY s) : Int))) /\ True) := by kernel_rfl
theorem Z10d (s : Syntax) (h : wY s <= 1048576) (ih : ∀ z ∈ s.items, ∀ (h : wY z <= 1048576), Z7w z)  : Z7w s := by
  refine CallOK.ofRun wide (Zub s) Tryz.call157 Tryz.func157 rfl rfl rfl ?_
  have g6 := sizeY_eq s
  have g7 : sumBy sizeY (s.items.take 0) = 0 := rfl
  with_reducible repeat' (first | apply And.intro | exact flatI | exact flatS | exact rowLens | exact ih | (intro; skip) | apply obsN | apply obsC | apply obA | apply obM | apply obB | apply svA | apply tupA | apply lcA | apply lcS | apply svC | apply liC | apply lbC | apply lsC | apply vIc | apply vBc | apply vSc | apply vLc | apply mapC | apply hdI | apply Zo5 | apply Zwd | apply Zkh)
  all_goals (try simp only [std] at *)
  all_goals (try (first | with_reducible apply ih | (simp only [<- List.map_append]; first | with_reducible apply ih)))
  all_goals (try (first | with_reducible rfl | omega | assumption | exact dT ‹_› | exact dF ‹_› | ((first | refine rowGet ?_ | refine getC ?_ rfl); (first | omega | (simp only [std]; omega) | grind)) | (show (_ : St) = _; rfl) | grind [snocI, snocS, rowSnoc]))
theorem Zff (s : Syntax) : ∀ (h : wY s <= 1048576), Z7w s := Syntax.ind (P := fun s => ∀ (h : wY s <= 1048576), Z7w s) (fun s ih h => Z10d s h ih) s
abbrev Z7x (s : Syntax) : Prop := CallOK Tryz.prog 165 [] [syntaxA s] [] (.sv (li (sizeY s)))
def Zcq (s : Syntax) (x0 : SV) (x1 : SV) : St := St.mk (regsOf 19 [(3, AV.sv x1), (7, AV.sv (ll (List.map syntaxC (Syntax.items s)))), (8, AV.sv (li (↑(List.length
 (List.map syntaxC (Syntax.items s))) : Int))), (9, AV.sv x0)]) [] 0 
def Z2k (s : Syntax) (k : Nat) : St := Zcq s (li (k : Int)) (li (↑(1 + sumBy sizeY (List.take k (Syntax.items s))) : Int)) 
abbrev Z77 (s : Syntax) : Nat -> St -> Prop := Head (Z2k s) (fun k => k <= List.length (Syntax.items s) /\ List.length (Syntax.items s) <= 9223372036854775807) fun k =>
 List.length (Syntax.items s) - k 
def Z6b (s : Syntax) (x0 : SV) : St := St.mk (regsOf 19 [(3, AV.sv x0)]) [] 0 
def Zhd (s : Syntax) : List (Prop × AEx × St) := [(True, AEx.exit 0, Z6b s (li (↑(1 + sumBy sizeY (Syntax.items s)) : Int)))]

theorem Zo6 {s : Syntax} {k : Nat} {x0 : SV} {x1 : SV} (h0 : x0 = (li (k : Int))) (h1 : x1 = (li (↑(1 + sumBy sizeY (List.take k (Syntax.items s))) : Int))) :
 Zcq s x0 x1 = Z2k s k := by
  rw [h0, h1]
  rfl
theorem Zki {s : Syntax} {x0 y0 : SV} (h0 : x0 = y0) : Z6b s x0 = Z6b s y0 := by rw [h0]
theorem Zrf (s : Syntax) (k : Nat) : aexec Tryz.prog (loopAt Tryz.f165 0) (Z2k s k) [.br [.cells (syntaxF (List.getD (Syntax.items s) k default)),
 .call [Mode.rd] [] (AV.sv (li (↑(sizeY (List.getD (Syntax.items s) k default)) : Int))), .ghost (.sel [] [3, 7, 8, 9]), .goto (List.length (Syntax.items s) - (k +
 1)) (Z2k s (k + 1))] [.ghost (.sel [] [3]), .out 0]] (loopK (Z77 s) (Zhd s) (List.length (Syntax.items s) - k)) = ((decide ((k : Int) <
 (↑(List.length (List.map syntaxC (Syntax.items s))) : Int)) = true -> (0 <= (k : Int) /\ (List.map syntaxC (Syntax.items s))[Int.toNat (k : Int)]? = some (syntaxF (List.getD
 (Syntax.items s) k default))) /\ Z7x (List.getD (Syntax.items s) k default) /\ rng .i64 ((↑(1 + sumBy sizeY (List.take k (Syntax.items s))) : Int) + (↑(sizeY
 (List.getD (Syntax.items s) k default)) : Int)) /\ rng .i64 ((k : Int) + 1) /\ List.length (Syntax.items s) - (k + 1) < List.length (Syntax.items s) - k /\ Zcq s
 (li ((k : Int) + 1)) (li ((↑(1 + sumBy sizeY (List.take k (Syntax.items s))) : Int) + (↑(sizeY (List.getD (Syntax.items s) k default)) : Int))) = Z2k s (k + 1) /\
 Z77 s (List.length (Syntax.items s) - (k + 1)) (Z2k s (k + 1))) /\ (decide ((k : Int) < (↑(List.length (List.map syntaxC (Syntax.items s))) : Int)) = false ->
 True /\ Z6b s (li (↑(1 + sumBy sizeY (List.take k (Syntax.items s))) : Int)) = Z6b s (li (↑(1 + sumBy sizeY (Syntax.items s)) : Int)))) := by kernel_rfl
theorem Zwe (s : Syntax) (h : wY s <= 1048576) (ih : ∀ (z : Syntax), z ∈ Syntax.items s -> wY z <= 1048576 -> Z7x z)  : LoopSem Tryz.prog (loopAt Tryz.f165 0)
 (Z77 s) (Zhd s) := by
  refine LoopSem.ofHead wide fun k h => ⟨_, _, Zrf s k, ?_⟩
  have g1 := wY_eq s
  have g2 := @sumBy_mem _ wY s.items (s.items.getD k default)
  have g3 := @sumBy_step _ _ sizeY s.items k
  have g4 := sumBy_takeLe sizeY s.items (k + 1)
  have g5 := sizeY_le s
  have g6 := sizeY_eq s
  have g7 : s.items.length <= k -> s.items.take k = s.items := fun h => List.take_of_length_le h
  with_reducible repeat' (first | apply And.intro | exact flatI | exact flatS | exact rowLens | exact ih | (intro; skip) | apply obsN | apply obsC | apply obA | apply obM | apply obB | apply svA | apply tupA | apply lcA | apply lcS | apply svC | apply liC | apply lbC | apply lsC | apply vIc | apply vBc | apply vSc | apply vLc | apply mapC | apply hdI | apply Zo6 | apply Zki | apply ih)
  all_goals (try simp only [std] at *)
  all_goals (try (first | with_reducible apply ih | (simp only [<- List.map_append]; first | with_reducible apply ih)))
  all_goals (try (first | with_reducible rfl | omega | assumption | exact dT ‹_› | exact dF ‹_› | ((first | refine rowGet ?_ | refine getC ?_ rfl); (first | omega | (simp only [std]; omega) | grind)) | (show (_ : St) = _; rfl) | grind [getD_mem', snocI, snocS, rowSnoc]))
theorem Zuc (s : Syntax) : aexec Tryz.prog (Tryz.f165.body.getD .skip) (entry [] [syntaxA s] 19) [.ghost (.sel [] [3, 7, 8, 9]), .loop
 (List.length (Syntax.items s) - 0) (Z2k s 0) (Z77 s) [(True, AEx.exit 0, Z6b s (li (↑(1 + sumBy sizeY (Syntax.items s)) : Int)), [.fin []])]]
 (finK Tryz.prog [ResultVar.tmp 2] [] (AV.sv (li (↑(sizeY s) : Int)))) = (List.length (List.map syntaxC (Syntax.items s)) <= 9223372036854775807 -> Zcq s (li 0) (li 1) =
 Z2k s 0 /\ Z77 s (List.length (Syntax.items s) - 0) (Z2k s 0) /\ LoopSem Tryz.prog (loopAt Tryz.f165 0) (Z77 s) (Zhd s) /\ (True ->
 ObsEq [] [] /\ AV.sv (li (↑(1 + sumBy sizeY (Syntax.items s)) : Int)) = AV.sv (li (↑(sizeY s) : Int))) /\ True) := by kernel_rfl
theorem Z10e (s : Syntax) (h : wY s <= 1048576) (ih : ∀ z ∈ s.items, ∀ (h : wY z <= 1048576), Z7x z)  : Z7x s := by
  refine CallOK.ofRun wide (Zuc s) Tryz.call165 Tryz.func165 rfl rfl rfl ?_
  have g6 := sizeY_eq s
  have g7 : sumBy sizeY (s.items.take 0) = 0 := rfl
  with_reducible repeat' (first | apply And.intro | exact flatI | exact flatS | exact rowLens | exact ih | (intro; skip) | apply obsN | apply obsC | apply obA | apply obM | apply obB | apply svA | apply tupA | apply lcA | apply lcS | apply svC | apply liC | apply lbC | apply lsC | apply vIc | apply vBc | apply vSc | apply vLc | apply mapC | apply hdI | apply Zo6 | apply Zwe | apply Zki)
  all_goals (try simp only [std] at *)
  all_goals (try (first | with_reducible apply ih | (simp only [<- List.map_append]; first | with_reducible apply ih)))
  all_goals (try (first | with_reducible rfl | omega | assumption | exact dT ‹_› | exact dF ‹_› | ((first | refine rowGet ?_ | refine getC ?_ rfl); (first | omega | (simp only [std]; omega) | grind)) | (show (_ : St) = _; rfl) | grind [snocI, snocS, rowSnoc]))
theorem Zfg (s : Syntax) : ∀ (h : wY s <= 1048576), Z7x s := Syntax.ind (P := fun s => ∀ (h : wY s <= 1048576), Z7x s) (fun s ih h => Z10e s h ih) s
def clP (Ls : List Syntax) (p : Syntax) : Bool := isSyn p && decide (p.kind = 0) && !decide ((p.items.length : Int) = 0) && decide ((p.items.getD 0 default).kind = 1) && !isDots (p.items.getD 0 default) && (vrS Ls (tlY p) 0 []).isSome
def clT (Ls : List Syntax) (p t : Syntax) : Bool := clP Ls p && tmF ((vrS Ls (tlY p) 0 []).getD []) t
def clTo (r : Rules) : Nat -> Bool
  | 0 => true
  | k + 1 => clTo r k && clT r.literals (r.patterns.getD k default) (r.templates.getD k default)
def clN (r : Rules) : Nat -> Nat
  | 0 => 0
  | k + 1 => clN r k + sizeY (r.patterns.getD k default) + sizeY (r.templates.getD k default)
theorem clTo_le (r : Rules) : ∀ (m k : Nat), k <= m -> clTo r m = true -> clTo r k = true
  | 0, k, h, _ => by
    obtain rfl : k = 0 := by omega
    rfl
  | m + 1, k, h, ht => by
    by_cases e : k = m + 1
    . rw [e]; exact ht
    . refine clTo_le r m k (by omega) ?_
      simp only [clTo, Bool.and_eq_true] at ht; exact ht.1
theorem clN_le (r : Rules) : ∀ k, k <= r.patterns.length -> r.patterns.length = r.templates.length -> clN r k <= 2 * k + sumBy wY (r.patterns.take k) + sumBy wY (r.templates.take k)
  | 0, _, _ => by simp [clN, sumBy]
  | k + 1, hk, hl => by
    have ih := clN_le r k (by omega) hl
    have h1 := @sumBy_step _ _ wY r.patterns k (by omega)
    have h2 := @sumBy_step _ _ wY r.templates k (by omega)
    have h3 := sizeY_le (r.patterns.getD k default)
    have h4 := sizeY_le (r.templates.getD k default)
    simp only [clN]; omega
def isRul (r : Rules) : Bool := okL r.literals && decide ((r.patterns.length : Int) = r.templates.length) && decide (1 <= (r.patterns.length : Int) /\ (r.patterns.length : Int) <= 12) && clTo r r.patterns.length && decide ((clN r r.patterns.length : Int) <= 2000)
abbrev Zpm (r : Rules) : Prop := CallOK Tryz.prog 84 [] [rulesA r] [] (.sv (lb (isRul r)))
def Zcr (r : Rules) (x0 : SV) (x1 : SV) : St := St.mk (regsOf 100 [(1, AV.sv (SV.one (AC.ptr 0 0))), (3, AV.sv x1), (29, AV.sv (ll (List.map syntaxC (Rules.patterns
 r)))), (30, AV.sv (li (↑(List.length (List.map syntaxC (Rules.patterns r))) : Int))), (31, AV.sv x0)]) [Ob.box (vals (rulesF r))] 0 
def Z2l (r : Rules) (k : Nat) : St := Zcr r (li (k : Int)) (li (↑(clN r k) : Int)) 
abbrev Z78 (r : Rules) : Nat -> St -> Prop := Head (Z2l r) (fun k => k <= List.length (Rules.patterns r) /\ List.length (Rules.patterns r) <= 9223372036854775807 /\
 List.length (Rules.patterns r) = List.length (Rules.templates r) /\ List.length (Rules.patterns r) <= 12 /\ clTo r k = true) fun k => List.length (Rules.patterns r) - k 
def Z6c (r : Rules) (x0 : SV) : St := St.mk (regsOf 100 [(3, AV.sv x0)]) [] 0 
def Z3 (r : Rules) (x0 : SV) : St := St.mk (regsOf 100 [(2, AV.sv x0)]) [] 0 
def Zhe (r : Rules) : List (Prop × AEx × St) := [(clTo r (List.length (Rules.patterns r)) = true, AEx.exit 0, Z6c r (li (↑(clN r (List.length (Rules.patterns
 r))) : Int))), (clTo r (List.length (Rules.patterns r)) = false, AEx.ret, Z3 r (lb false))]

theorem Zo7 {r : Rules} {k : Nat} {x0 : SV} {x1 : SV} (h0 : x0 = (li (k : Int))) (h1 : x1 = (li (↑(clN r k) : Int))) : Zcr r x0 x1 = Z2l r k := by
  rw [h0, h1]
  rfl
theorem Zkj {r : Rules} {x0 y0 : SV} (h0 : x0 = y0) : Z6c r x0 = Z6c r y0 := by rw [h0]
theorem Zkk {r : Rules} {x0 y0 : SV} (h0 : x0 = y0) : Z3 r x0 = Z3 r y0 := by rw [h0]
abbrev a2__sIsRulesLa (r : Rules) (k : Nat) := (List.getD (Rules.patterns r) k default)
abbrev a1__sIsRulesLa (r : Rules) (k : Nat) := (vrS (Rules.literals r) (Syntax.mk 0 0 (mkS []) [] (List.drop 1 (Syntax.items (a2__sIsRulesLa r k)))) 0 [])
abbrev a3__sIsRulesLa (r : Rules) (k : Nat) := (List.getD (Syntax.items (a2__sIsRulesLa r k)) 0 default)
abbrev a4__sIsRulesLa (r : Rules) (k : Nat) := (List.getD (Rules.templates r) k default)
theorem Zrg (r : Rules) (k : Nat) : aexec Tryz.prog (loopAt Tryz.f84 0) (Z2l r k) [.br [.cells (syntaxF (a2__sIsRulesLa r k)), .call [Mode.rd] []
 (AV.sv (lb (isSyn (a2__sIsRulesLa r k)))), .br [.bool true, .bool true, .bool true, .bool true, .ghost (.sel [] [2]), .out 1] [.br [.bool true,
 .bool true, .bool true, .ghost (.sel [] [2]), .out 1] [.br [.bool true, .bool true, .ghost (.sel [] [2]), .out 1] [.cells (syntaxF
 (a3__sIsRulesLa r k)), .br [.bool true, .ghost (.sel [] [2]), .out 1] [.cells (syntaxF (a3__sIsRulesLa r k)), .call [Mode.rd] [] (AV.sv (lb (isDots
 (a3__sIsRulesLa r k)))), .br [.ghost (.sel [] [2]), .out 1] [.draw [(5, [10])], .call [Mode.rd] [] (AV.sv (SV.agg [vI 0, vI 0, vS (mkS []), AC.val (Cell.lit
 (Value.slice none 0 0)), vL (List.map syntaxC (List.drop 1 (Syntax.items (a2__sIsRulesLa r k))))])), .bool false, .call [Mode.rd, Mode.rd, Mode.rd, Mode.own true 12]
 [Ob.dead, Ob.arr true 12 (List.map captureC (Option.getD (a1__sIsRulesLa r k) []))] (AV.tup [SV.one (AC.ref 1), lb (Option.isSome (a1__sIsRulesLa r k))]), .br [.bool true,
 .ghost (.sel [] [2]), .out 1] [.cells (syntaxF (a4__sIsRulesLa r k)), .call [Mode.rd, Mode.rd] [] (AV.sv (lb (tmF (Option.getD (a1__sIsRulesLa r k) [])
 (a4__sIsRulesLa r k)))), .br [.ghost (.sel [] [2]), .out 1] [.draw [], .call [Mode.rd] [] (AV.sv (li (↑(sizeY (a2__sIsRulesLa r k)) : Int))), .cells
 (syntaxF (a4__sIsRulesLa r k)), .call [Mode.rd] [] (AV.sv (li (↑(sizeY (a4__sIsRulesLa r k)) : Int))), .ghost (.sel [0] [1, 3, 29, 30, 31]), .goto (List.length
 (Rules.patterns r) - (k + 1)) (Z2l r (k + 1))]]]]]]]] [.ghost (.sel [] [3]), .out 0]] (loopK (Z78 r) (Zhe r) (List.length (Rules.patterns
 r) - k)) = ((decide ((k : Int) < (↑(List.length (List.map syntaxC (Rules.patterns r))) : Int)) = true -> (0 <= (k : Int) /\ (List.map syntaxC (Rules.patterns r))[Int.toNat (↑k :
 Int)]? = some (syntaxF (a2__sIsRulesLa r k))) /\ Zcl (a2__sIsRulesLa r k) /\ ((!isSyn (a2__sIsRulesLa r k)) = true -> true = true /\ true = true /\ true = true /\ true = true
 /\ clTo r (List.length (Rules.patterns r)) = false /\ Z3 r (lb false) = Z3 r (lb false)) /\ ((!isSyn (a2__sIsRulesLa r k)) = false -> (decide (Syntax.kind
 (a2__sIsRulesLa r k) ≠ 0) = true -> true = true /\ true = true /\ true = true /\ clTo r (List.length (Rules.patterns r)) = false /\ Z3 r (lb false) = Z3 r (lb
 false)) /\ (decide (Syntax.kind (a2__sIsRulesLa r k) ≠ 0) = false -> List.length (List.map syntaxC (Syntax.items (a2__sIsRulesLa r k))) <= 9223372036854775807 -> (decide
 ((↑(List.length (List.map syntaxC (Syntax.items (a2__sIsRulesLa r k)))) : Int) = 0) = true -> true = true /\ true = true /\ clTo r (List.length (Rules.patterns r)) = false /\
 Z3 r (lb false) = Z3 r (lb false)) /\ (decide ((↑(List.length (List.map syntaxC (Syntax.items (a2__sIsRulesLa r k)))) : Int) = 0) = false -> ((0 : Int) <= 0 /\
 (List.map syntaxC (Syntax.items (a2__sIsRulesLa r k)))[0]? = some (syntaxF (a3__sIsRulesLa r k))) /\ (decide (Syntax.kind (a3__sIsRulesLa r k) ≠ 1) = true -> true = true /\ clTo r
 (List.length (Rules.patterns r)) = false /\ Z3 r (lb false) = Z3 r (lb false)) /\ (decide (Syntax.kind (a3__sIsRulesLa r k) ≠ 1) = false -> ((0 : Int) <= 0 /\
 (List.map syntaxC (Syntax.items (a2__sIsRulesLa r k)))[0]? = some (syntaxF (a3__sIsRulesLa r k))) /\ Z7n (a3__sIsRulesLa r k) /\ (isDots (a3__sIsRulesLa r k) = true -> clTo r
 (List.length (Rules.patterns r)) = false /\ Z3 r (lb false) = Z3 r (lb false)) /\ (isDots (a3__sIsRulesLa r k) = false -> Zvm (a2__sIsRulesLa r k) /\
 Z9b (Rules.literals r) (Syntax.mk 0 0 (mkS []) [] (List.drop 1 (Syntax.items (a2__sIsRulesLa r k)))) 0 [] /\ ((!Option.isSome (a1__sIsRulesLa r k)) = true -> true = true /\
 clTo r (List.length (Rules.patterns r)) = false /\ Z3 r (lb false) = Z3 r (lb false)) /\ ((!Option.isSome (a1__sIsRulesLa r k)) = false -> (0 <= (k : Int) /\
 (List.map syntaxC (Rules.templates r))[Int.toNat (k : Int)]? = some (syntaxF (a4__sIsRulesLa r k))) /\ Zxa (Option.getD (a1__sIsRulesLa r k) []) (a4__sIsRulesLa r k) /\ ((!tmF
 (Option.getD (a1__sIsRulesLa r k) []) (a4__sIsRulesLa r k)) = true -> clTo r (List.length (Rules.patterns r)) = false /\ Z3 r (lb false) = Z3 r (lb false)) /\
 ((!tmF (Option.getD (a1__sIsRulesLa r k) []) (a4__sIsRulesLa r k)) = false -> Z7w (a2__sIsRulesLa r k) /\ rng .i64 ((↑(clN r k) : Int) + (↑(sizeY (a2__sIsRulesLa r k))
 : Int)) /\ (0 <= (k : Int) /\ (List.map syntaxC (Rules.templates r))[Int.toNat (k : Int)]? = some (syntaxF (a4__sIsRulesLa r k))) /\ Z7w (a4__sIsRulesLa r k) /\ rng
 IntKind.i64 ((↑(clN r k) : Int) + (↑(sizeY (a2__sIsRulesLa r k)) : Int) + (↑(sizeY (a4__sIsRulesLa r k)) : Int)) /\ rng .i64 ((k : Int) + 1) /\ List.length (Rules.patterns
 r) - (k + 1) < List.length (Rules.patterns r) - k /\ Zcr r (li ((k : Int) + 1)) (li ((↑(clN r k) : Int) + (↑(sizeY (a2__sIsRulesLa r k)) : Int) + (↑(sizeY
 (a4__sIsRulesLa r k)) : Int))) = Z2l r (k + 1) /\ Z78 r (List.length (Rules.patterns r) - (k + 1)) (Z2l r (k + 1)))))))))) /\ (decide ((k : Int) <
 (↑(List.length (List.map syntaxC (Rules.patterns r))) : Int)) = false -> clTo r (List.length (Rules.patterns r)) = true /\ Z6c r (li (↑(clN r k) : Int)) = Z6c
 r (li (↑(clN r (List.length (Rules.patterns r))) : Int)))) := by kernel_rfl
theorem Zwf (r : Rules) (h : wR r <= 1048576)  : LoopSem Tryz.prog (loopAt Tryz.f84 0) (Z78 r) (Zhe r) := by
  refine LoopSem.ofHead wide fun k h => ⟨_, _, Zrg r k, ?_⟩
  try delta a2__sIsRulesLa a1__sIsRulesLa a3__sIsRulesLa a4__sIsRulesLa
  have g1 := clTo_le r r.patterns.length (k + 1)
  have g2 : clTo r (k + 1) = (clTo r k && clT r.literals (r.patterns.getD k default) (r.templates.getD k default)) := rfl
  have g3 : clN r (k + 1) = clN r k + sizeY (r.patterns.getD k default) + sizeY (r.templates.getD k default) := rfl
  have g4 := clN_le r (k + 1)
  have g5 := sumBy_takeLe wY r.patterns (k + 1)
  have g6 := sumBy_takeLe wY r.templates (k + 1)
  have g7 := wR_eq r
  have g8 := @sumBy_mem _ wY r.patterns (r.patterns.getD k default)
  have g9 := @sumBy_mem _ wY r.templates (r.templates.getD k default)
  have g10 := @tlY_syn (r.patterns.getD k default)
  have g11 := tlY_w (r.patterns.getD k default)
  have g12 : ∀ p, isSyn p = true -> sizeY p <= 2000 /\ depY p <= 40 := fun p h => by simp only [isSyn, Bool.and_eq_true, decide_eq_true_eq] at h; exact ⟨h.1.1, h.1.2⟩
  with_reducible repeat' (first | apply And.intro | exact flatI | exact flatS | exact rowLens | (intro; skip) | apply obsN | apply obsC | apply obA | apply obM | apply obB | apply svA | apply tupA | apply lcA | apply lcS | apply svC | apply liC | apply lbC | apply lsC | apply vIc | apply vBc | apply vSc | apply vLc | apply mapC | apply hdI | apply Zo7 | apply Zkj | apply Zkk | apply Zj2 | apply Z2 | apply Zp | apply Z5 | apply Zj5 | apply Zj4 | apply Zmi | apply Zff)
  all_goals (try simp only [std] at *)
  all_goals (try (first | with_reducible apply Zj2 | with_reducible apply Z2 | with_reducible apply Zp | with_reducible apply Z5 | with_reducible apply Zj5 | with_reducible apply Zj4 | with_reducible apply Zmi | with_reducible apply Zff | (simp only [<- List.map_append]; first | with_reducible apply Zj2 | with_reducible apply Z2 | with_reducible apply Zp | with_reducible apply Z5 | with_reducible apply Zj5 | with_reducible apply Zj4 | with_reducible apply Zmi | with_reducible apply Zff)))
  all_goals (try (first | with_reducible rfl | omega | assumption | exact dT ‹_› | exact dF ‹_› | ((first | refine rowGet ?_ | refine getC ?_ rfl); (first | omega | (simp only [std]; omega) | grind)) | (show (_ : St) = _; rfl) | grind [clT, clP, tlY, getD_mem', snocI, snocS, rowSnoc]))
abbrev Z1x (r : Rules) := (↑(List.length (List.map syntaxC (Rules.patterns r))) : Int)
theorem Zud (r : Rules) : aexec Tryz.prog (Tryz.f84.body.getD .skip) (entry [] [rulesA r] 100) [.call [Mode.rd] [] (AV.sv (lb (okL (Rules.literals
 r)))), .br [.bool true, .bool true, .fin []] [.br [.bool true, .fin []] [.call [Mode.rd, Mode.rd, Mode.rd] [] (AV.sv (lb (decide (1 <= (Z1x r) /\
 (Z1x r) <= 12)))), .br [.fin []] [.ghost (.sel [0] [1, 3, 29, 30, 31]), .loop (List.length (Rules.patterns r) - 0) (Z2l r 0) (Z78 r)
 [(clTo r (List.length (Rules.patterns r)) = true, AEx.exit 0, Z6c r (li (↑(clN r (List.length (Rules.patterns r))) : Int)), [.fin []]), (clTo r (List.length
 (Rules.patterns r)) = false, AEx.ret, Z3 r (lb false), [.fin []])]]]]] (finK Tryz.prog [ResultVar.tmp 2] [] (AV.sv (lb (isRul r)))) = (Zvj (Rules.literals r)
 /\ ((!okL (Rules.literals r)) = true -> true = true /\ true = true /\ ObsEq [] [] /\ AV.sv (lb false) = AV.sv (lb (isRul r))) /\ ((!okL (Rules.literals r)) = false -> List.length
 (List.map syntaxC (Rules.patterns r)) <= 9223372036854775807 -> List.length (List.map syntaxC (Rules.templates r)) <= 9223372036854775807 -> (decide ((Z1x r) ≠
 (↑(List.length (List.map syntaxC (Rules.templates r))) : Int)) = true -> true = true /\ ObsEq [] [] /\ AV.sv (lb false) = AV.sv (lb (isRul r))) /\ (decide ((Z1x r) ≠
 (↑(List.length (List.map syntaxC (Rules.templates r))) : Int)) = false -> List.length (List.map syntaxC (Rules.patterns r)) <= 9223372036854775807 -> Z3o (Z1x r) 1 12
 /\ ((!decide (1 <= (Z1x r) /\ (Z1x r) <= 12)) = true -> ObsEq [] [] /\ AV.sv (lb false) = AV.sv (lb (isRul r))) /\ ((!decide (1 <= (Z1x r) /\ (Z1x
 r) <= 12)) = false -> List.length (List.map syntaxC (Rules.patterns r)) <= 9223372036854775807 -> Zcr r (li 0) (li 0) = Z2l r 0 /\ Z78 r (List.length
 (Rules.patterns r) - 0) (Z2l r 0) /\ LoopSem Tryz.prog (loopAt Tryz.f84 0) (Z78 r) (Zhe r) /\ (clTo r (List.length (Rules.patterns r)) = true -> ObsEq
 [] [] /\ AV.sv (lb (decide ((↑(clN r (List.length (Rules.patterns r))) : Int) <= 2000))) = AV.sv (lb (isRul r))) /\ (clTo r (List.length (Rules.patterns r)) = false -> ObsEq [] [] /\
 AV.sv (lb false) = AV.sv (lb (isRul r))) /\ True)))) := by kernel_rfl
theorem Z5w (r : Rules) (h : wR r <= 1048576)  : Zpm r := by
  refine CallOK.ofRun wide (Zud r) Tryz.call84 Tryz.func84 rfl rfl rfl ?_
  try delta Z1x
  with_reducible repeat' (first | apply And.intro | exact flatI | exact flatS | exact rowLens | (intro; skip) | apply obsN | apply obsC | apply obA | apply obM | apply obB | apply svA | apply tupA | apply lcA | apply lcS | apply svC | apply liC | apply lbC | apply lsC | apply vIc | apply vBc | apply vSc | apply vLc | apply mapC | apply hdI | apply Zo7 | apply Zwf | apply Zkj | apply Zkk | apply Zj2 | apply Z2 | apply Zp | apply Z5 | apply Zj5 | apply Zj4 | apply Zmi | apply Zff)
  all_goals (try simp only [std] at *)
  all_goals (try (first | with_reducible apply Zj2 | with_reducible apply Z2 | with_reducible apply Zp | with_reducible apply Z5 | with_reducible apply Zj5 | with_reducible apply Zj4 | with_reducible apply Zmi | with_reducible apply Zff | (simp only [<- List.map_append]; first | with_reducible apply Zj2 | with_reducible apply Z2 | with_reducible apply Zp | with_reducible apply Z5 | with_reducible apply Zj5 | with_reducible apply Zj4 | with_reducible apply Zmi | with_reducible apply Zff)))
  all_goals (try (first | with_reducible rfl | omega | assumption | exact dT ‹_› | exact dF ‹_› | ((first | refine rowGet ?_ | refine getC ?_ rfl); (first | omega | (simp only [std]; omega) | grind)) | (show (_ : St) = _; rfl) | grind [isRul, clTo, clN, snocI, snocS, rowSnoc]))
abbrev Zpn (r : Rules) : Prop := CallOK Tryz.prog 88 [] [rulesA r] [] (.sv (lb (isRul r)))
def Zcs (r : Rules) (x0 : SV) (x1 : SV) : St := St.mk (regsOf 104 [(1, AV.sv (SV.one (AC.ptr 0 0))), (3, AV.sv x1), (34, AV.sv (ll (List.map syntaxC (Rules.patterns
 r)))), (35, AV.sv (li (↑(List.length (List.map syntaxC (Rules.patterns r))) : Int))), (36, AV.sv x0)]) [Ob.box (vals (rulesF r))] 0 
def Z2m (r : Rules) (k : Nat) : St := Zcs r (li (k : Int)) (li (↑(clN r k) : Int)) 
abbrev Z79 (r : Rules) : Nat -> St -> Prop := Head (Z2m r) (fun k => k <= List.length (Rules.patterns r) /\ List.length (Rules.patterns r) <= 9223372036854775807 /\
 List.length (Rules.patterns r) = List.length (Rules.templates r) /\ List.length (Rules.patterns r) <= 12 /\ clTo r k = true /\ okL (Rules.literals r) = true) fun k => List.length
 (Rules.patterns r) - k 
def Z6d (r : Rules) (x0 : SV) : St := St.mk (regsOf 104 [(3, AV.sv x0)]) [] 0 
def Z4 (r : Rules) (x0 : SV) : St := St.mk (regsOf 104 [(2, AV.sv x0)]) [] 0 
def Zhf (r : Rules) : List (Prop × AEx × St) := [(clTo r (List.length (Rules.patterns r)) = true, AEx.exit 0, Z6d r (li (↑(clN r (List.length (Rules.patterns
 r))) : Int))), (clTo r (List.length (Rules.patterns r)) = false, AEx.ret, Z4 r (lb false))]

theorem Zo8 {r : Rules} {k : Nat} {x0 : SV} {x1 : SV} (h0 : x0 = (li (k : Int))) (h1 : x1 = (li (↑(clN r k) : Int))) : Zcs r x0 x1 = Z2m r k := by
  rw [h0, h1]
  rfl
theorem Zkl {r : Rules} {x0 y0 : SV} (h0 : x0 = y0) : Z6d r x0 = Z6d r y0 := by rw [h0]
theorem Zkm {r : Rules} {x0 y0 : SV} (h0 : x0 = y0) : Z4 r x0 = Z4 r y0 := by rw [h0]
abbrev a2__iIsRulesLa (r : Rules) (k : Nat) := (List.getD (Rules.patterns r) k default)
abbrev a1__iIsRulesLa (r : Rules) (k : Nat) := (Syntax.mk 0 0 (mkS []) [] (List.drop 1 (Syntax.items (a2__iIsRulesLa r k))))
abbrev a3__iIsRulesLa (r : Rules) (k : Nat) := (if okL (Rules.literals r) = true /\ isSyn (a1__iIsRulesLa r k) = true then Option.getD (vrS (Rules.literals r) (a1__iIsRulesLa r k) 0
 []) [] else [])
abbrev a4__iIsRulesLa (r : Rules) (k : Nat) := (List.getD (Syntax.items (a2__iIsRulesLa r k)) 0 default)
abbrev a5__iIsRulesLa (r : Rules) (k : Nat) := (List.getD (Rules.templates r) k default)
abbrev a6__iIsRulesLa (r : Rules) (k : Nat) := (okL (Rules.literals r) && isSyn (a1__iIsRulesLa r k) && Option.isSome (vrS (Rules.literals r) (a1__iIsRulesLa r k) 0 []))
theorem Zrh (r : Rules) (k : Nat) : aexec Tryz.prog (loopAt Tryz.f88 0) (Z2m r k) [.br [.cells (syntaxF (a2__iIsRulesLa r k)), .call [Mode.rd] []
 (AV.sv (lb (isSyn (a2__iIsRulesLa r k)))), .br [.bool true, .bool true, .bool true, .bool true, .ghost (.sel [] [2]), .out 1] [.br [.bool true,
 .bool true, .bool true, .ghost (.sel [] [2]), .out 1] [.br [.bool true, .bool true, .ghost (.sel [] [2]), .out 1] [.cells (syntaxF
 (a4__iIsRulesLa r k)), .br [.bool true, .ghost (.sel [] [2]), .out 1] [.cells (syntaxF (a4__iIsRulesLa r k)), .call [Mode.rd] [] (AV.sv (lb (isDots
 (a4__iIsRulesLa r k)))), .br [.ghost (.sel [] [2]), .out 1] [.draw [], .call [Mode.rd] [] (AV.sv (SV.agg [vI 0, vI 0, vS (mkS []), AC.val (Cell.lit
 (Value.slice none 0 0)), vL (List.map syntaxC (List.drop 1 (Syntax.items (a2__iIsRulesLa r k))))])), .call [Mode.rd, Mode.rd] [Ob.arr true 12 (List.map captureC (a3__iIsRulesLa
 r k))] (AV.tup [SV.one (AC.ref 0), lb (a6__iIsRulesLa r k)]), .br [.bool true, .ghost (.sel [] [2]), .out 1] [.cells (syntaxF (a5__iIsRulesLa r k)), .call
 [Mode.rd, Mode.rd] [] (AV.sv (lb (tmF (a3__iIsRulesLa r k) (a5__iIsRulesLa r k)))), .br [.ghost (.sel [] [2]), .out 1] [.draw [], .call [Mode.rd] [] (AV.sv (li
 (↑(sizeY (a2__iIsRulesLa r k)) : Int))), .cells (syntaxF (a5__iIsRulesLa r k)), .call [Mode.rd] [] (AV.sv (li (↑(sizeY (a5__iIsRulesLa r k)) : Int))), .ghost (.sel
 [0] [1, 3, 34, 35, 36]), .goto (List.length (Rules.patterns r) - (k + 1)) (Z2m r (k + 1))]]]]]]]] [.ghost (.sel [] [3]), .out 0]] (loopK (Z79 r)
 (Zhf r) (List.length (Rules.patterns r) - k)) = ((decide ((k : Int) < (↑(List.length (List.map syntaxC (Rules.patterns r))) : Int)) = true -> (0 <= (k : Int) /\ (List.map
 syntaxC (Rules.patterns r))[Int.toNat (k : Int)]? = some (syntaxF (a2__iIsRulesLa r k))) /\ Z9l (a2__iIsRulesLa r k) /\ ((!isSyn (a2__iIsRulesLa r k)) = true -> true =
 true /\ true = true /\ true = true /\ true = true /\ clTo r (List.length (Rules.patterns r)) = false /\ Z4 r (lb false) = Z4 r (lb false)) /\ ((!isSyn
 (a2__iIsRulesLa r k)) = false -> (decide (Syntax.kind (a2__iIsRulesLa r k) ≠ 0) = true -> true = true /\ true = true /\ true = true /\ clTo r (List.length (Rules.patterns r)) = false /\
 Z4 r (lb false) = Z4 r (lb false)) /\ (decide (Syntax.kind (a2__iIsRulesLa r k) ≠ 0) = false -> List.length (List.map syntaxC (Syntax.items (a2__iIsRulesLa r
 k))) <= 9223372036854775807 -> (decide ((↑(List.length (List.map syntaxC (Syntax.items (a2__iIsRulesLa r k)))) : Int) = 0) = true -> true = true /\ true = true /\ clTo r (List.length
 (Rules.patterns r)) = false /\ Z4 r (lb false) = Z4 r (lb false)) /\ (decide ((↑(List.length (List.map syntaxC (Syntax.items (a2__iIsRulesLa r k)))) : Int) =
 0) = false -> ((0 : Int) <= 0 /\ (List.map syntaxC (Syntax.items (a2__iIsRulesLa r k)))[0]? = some (syntaxF (a4__iIsRulesLa r k))) /\ (decide (Syntax.kind (a4__iIsRulesLa r k) ≠ 1) =
 true -> true = true /\ clTo r (List.length (Rules.patterns r)) = false /\ Z4 r (lb false) = Z4 r (lb false)) /\ (decide (Syntax.kind (a4__iIsRulesLa r k) ≠ 1)
 = false -> ((0 : Int) <= 0 /\ (List.map syntaxC (Syntax.items (a2__iIsRulesLa r k)))[0]? = some (syntaxF (a4__iIsRulesLa r k))) /\ Z4k (a4__iIsRulesLa r k) /\ (isDots
 (a4__iIsRulesLa r k) = true -> clTo r (List.length (Rules.patterns r)) = false /\ Z4 r (lb false) = Z4 r (lb false)) /\ (isDots (a4__iIsRulesLa r k) = false ->
 Zvn (a2__iIsRulesLa r k) /\ Zxs (Rules.literals r) (a1__iIsRulesLa r k) /\ ((!(a6__iIsRulesLa r k)) = true -> true = true /\ clTo r (List.length (Rules.patterns r)) = false
 /\ Z4 r (lb false) = Z4 r (lb false)) /\ ((!(a6__iIsRulesLa r k)) = false -> (0 <= (k : Int) /\ (List.map syntaxC (Rules.templates r))[Int.toNat (k : Int)]? =
 some (syntaxF (a5__iIsRulesLa r k))) /\ Zxf (a3__iIsRulesLa r k) (a5__iIsRulesLa r k) /\ ((!tmF (a3__iIsRulesLa r k) (a5__iIsRulesLa r k)) = true -> clTo r (List.length
 (Rules.patterns r)) = false /\ Z4 r (lb false) = Z4 r (lb false)) /\ ((!tmF (a3__iIsRulesLa r k) (a5__iIsRulesLa r k)) = false -> Z7x (a2__iIsRulesLa r
 k) /\ (0 <= (k : Int) /\ (List.map syntaxC (Rules.templates r))[Int.toNat (k : Int)]? = some (syntaxF (a5__iIsRulesLa r k))) /\ Z7x (a5__iIsRulesLa r k) /\ rng .i64
 ((↑(sizeY (a2__iIsRulesLa r k)) : Int) + (↑(sizeY (a5__iIsRulesLa r k)) : Int)) /\ rng .i64 ((↑(clN r k) : Int) + ((↑(sizeY (a2__iIsRulesLa r k)) : Int) + (↑(sizeY
 (a5__iIsRulesLa r k)) : Int))) /\ rng .i64 ((k : Int) + 1) /\ List.length (Rules.patterns r) - (k + 1) < List.length (Rules.patterns r) - k /\ Zcs r (li ((k : Int)
 + 1)) (li ((↑(clN r k) : Int) + ((↑(sizeY (a2__iIsRulesLa r k)) : Int) + (↑(sizeY (a5__iIsRulesLa r k)) : Int)))) = Z2m r (k + 1) /\ Z79 r (List.length
 (Rules.patterns r) - (k + 1)) (Z2m r (k + 1)))))))))) /\ (decide ((k : Int) < (↑(List.length (List.map syntaxC (Rules.patterns r))) : Int)) = false -> clTo r (List.length
 (Rules.patterns r)) = true /\ Z6d r (li (↑(clN r k) : Int)) = Z6d r (li (↑(clN r (List.length (Rules.patterns r))) : Int)))) := by kernel_rfl
theorem Zwg (r : Rules) (h : wR r <= 1048576)  : LoopSem Tryz.prog (loopAt Tryz.f88 0) (Z79 r) (Zhf r) := by
  refine LoopSem.ofHead wide fun k h => ⟨_, _, Zrh r k, ?_⟩
  try delta a2__iIsRulesLa a1__iIsRulesLa a3__iIsRulesLa a4__iIsRulesLa a5__iIsRulesLa a6__iIsRulesLa
  have g1 := clTo_le r r.patterns.length (k + 1)
  have g2 : clTo r (k + 1) = (clTo r k && clT r.literals (r.patterns.getD k default) (r.templates.getD k default)) := rfl
  have g3 : clN r (k + 1) = clN r k + sizeY (r.patterns.getD k default) + sizeY (r.templates.getD k default) := rfl
  have g4 := clN_le r (k + 1)
  have g5 := sumBy_takeLe wY r.patterns (k + 1)
  have g6 := sumBy_takeLe wY r.templates (k + 1)
  have g7 := wR_eq r
  have g8 := @sumBy_mem _ wY r.patterns (r.patterns.getD k default)
  have g9 := @sumBy_mem _ wY r.templates (r.templates.getD k default)
  have g10 := @tlY_syn (r.patterns.getD k default)
  have g11 := tlY_w (r.patterns.getD k default)
  have g12 : ∀ p, isSyn p = true -> sizeY p <= 2000 /\ depY p <= 40 := fun p h => by simp only [isSyn, Bool.and_eq_true, decide_eq_true_eq] at h; exact ⟨h.1.1, h.1.2⟩
  with_reducible repeat' (first | apply And.intro | exact flatI | exact flatS | exact rowLens | (intro; skip) | apply obsN | apply obsC | apply obA | apply obM | apply obB | apply svA | apply tupA | apply lcA | apply lcS | apply svC | apply liC | apply lbC | apply lsC | apply vIc | apply vBc | apply vSc | apply vLc | apply mapC | apply hdI | apply Zo8 | apply Zkl | apply Zkm | apply Zbf | apply Za | apply Z0 | apply Zj6 | apply Zmn | apply Zml | apply Zfg)
  all_goals (try simp only [std] at *)
  all_goals (try (first | with_reducible apply Zbf | with_reducible apply Za | with_reducible apply Z0 | with_reducible apply Zj6 | with_reducible apply Zmn | with_reducible apply Zml | with_reducible apply Zfg | (simp only [<- List.map_append]; first | with_reducible apply Zbf | with_reducible apply Za | with_reducible apply Z0 | with_reducible apply Zj6 | with_reducible apply Zmn | with_reducible apply Zml | with_reducible apply Zfg)))
  all_goals (try (first | with_reducible rfl | omega | assumption | exact dT ‹_› | exact dF ‹_› | ((first | refine rowGet ?_ | refine getC ?_ rfl); (first | omega | (simp only [std]; omega) | grind)) | (show (_ : St) = _; rfl) | grind [clT, clP, tlY, getD_mem', snocI, snocS, rowSnoc]))
abbrev Z5g (r : Rules) := (↑(List.length (List.map syntaxC (Rules.patterns r))) : Int)
theorem Zue (r : Rules) : aexec Tryz.prog (Tryz.f88.body.getD .skip) (entry [] [rulesA r] 104) [.call [Mode.rd] [] (AV.sv (lb (okL (Rules.literals
 r)))), .br [.bool true, .bool true, .bool true, .fin []] [.br [.bool true, .bool true, .fin []] [.br [.bool true, .fin []] [.br [.fin []]
 [.ghost (.sel [0] [1, 3, 34, 35, 36]), .loop (List.length (Rules.patterns r) - 0) (Z2m r 0) (Z79 r) [(clTo r (List.length (Rules.patterns r)) =
 true, AEx.exit 0, Z6d r (li (↑(clN r (List.length (Rules.patterns r))) : Int)), [.fin []]), (clTo r (List.length (Rules.patterns r)) = false, AEx.ret, Z4
 r (lb false), [.fin []])]]]]]] (finK Tryz.prog [ResultVar.tmp 2] [] (AV.sv (lb (isRul r)))) = (Zpg (Rules.literals r) /\ ((!okL (Rules.literals r)) = true -> true = true /\
 true = true /\ true = true /\ ObsEq [] [] /\ AV.sv (lb false) = AV.sv (lb (isRul r))) /\ ((!okL (Rules.literals r)) = false -> List.length (List.map syntaxC (Rules.patterns r)) <=
 9223372036854775807 -> List.length (List.map syntaxC (Rules.templates r)) <= 9223372036854775807 -> (decide ((Z5g r) ≠ (↑(List.length (List.map syntaxC (Rules.templates
 r))) : Int)) = true -> true = true /\ true = true /\ ObsEq [] [] /\ AV.sv (lb false) = AV.sv (lb (isRul r))) /\ (decide ((Z5g r) ≠ (↑(List.length (List.map syntaxC
 (Rules.templates r))) : Int)) = false -> List.length (List.map syntaxC (Rules.patterns r)) <= 9223372036854775807 -> (decide ((Z5g r) < 1) = true -> true = true /\ ObsEq []
 [] /\ AV.sv (lb false) = AV.sv (lb (isRul r))) /\ (decide ((Z5g r) < 1) = false -> List.length (List.map syntaxC (Rules.patterns r)) <= 9223372036854775807 -> (decide (12 <
 (Z5g r)) = true -> ObsEq [] [] /\ AV.sv (lb false) = AV.sv (lb (isRul r))) /\ (decide (12 < (Z5g r)) = false -> List.length (List.map syntaxC (Rules.patterns r)) <=
 9223372036854775807 -> Zcs r (li 0) (li 0) = Z2m r 0 /\ Z79 r (List.length (Rules.patterns r) - 0) (Z2m r 0) /\ LoopSem Tryz.prog (loopAt
 Tryz.f88 0) (Z79 r) (Zhf r) /\ (clTo r (List.length (Rules.patterns r)) = true -> ObsEq [] [] /\ AV.sv (lb (decide ((↑(clN r (List.length (Rules.patterns r))) :
 Int) <= 2000))) = AV.sv (lb (isRul r))) /\ (clTo r (List.length (Rules.patterns r)) = false -> ObsEq [] [] /\ AV.sv (lb false) = AV.sv (lb (isRul r))) /\ True))))) := by kernel_rfl
theorem Z5x (r : Rules) (h : wR r <= 1048576)  : Zpn r := by
  refine CallOK.ofRun wide (Zue r) Tryz.call88 Tryz.func88 rfl rfl rfl ?_
  try delta Z5g
  with_reducible repeat' (first | apply And.intro | exact flatI | exact flatS | exact rowLens | (intro; skip) | apply obsN | apply obsC | apply obA | apply obM | apply obB | apply svA | apply tupA | apply lcA | apply lcS | apply svC | apply liC | apply lbC | apply lsC | apply vIc | apply vBc | apply vSc | apply vLc | apply mapC | apply hdI | apply Zo8 | apply Zwg | apply Zkl | apply Zkm | apply Zbf | apply Za | apply Z0 | apply Zj6 | apply Zmn | apply Zml | apply Zfg)
  all_goals (try simp only [std] at *)
  all_goals (try (first | with_reducible apply Zbf | with_reducible apply Za | with_reducible apply Z0 | with_reducible apply Zj6 | with_reducible apply Zmn | with_reducible apply Zml | with_reducible apply Zfg | (simp only [<- List.map_append]; first | with_reducible apply Zbf | with_reducible apply Za | with_reducible apply Z0 | with_reducible apply Zj6 | with_reducible apply Zmn | with_reducible apply Zml | with_reducible apply Zfg)))
  all_goals (try (first | with_reducible rfl | omega | assumption | exact dT ‹_› | exact dF ‹_› | ((first | refine rowGet ?_ | refine getC ?_ rfl); (first | omega | (simp only [std]; omega) | grind)) | (show (_ : St) = _; rfl) | grind [isRul, clTo, clN, snocI, snocS, rowSnoc]))
end Go.Proofs.YtegbadciefljcaaGreat
end
section
namespace Go.Proofs.YtegbadciefljcaaGreat
open Go Go.Proofs.YtegbadciefljcaaGreat.Ab
set_option linter.unusedVariables false
set_option linter.unusedSimpArgs false
set_option maxHeartbeats 4000000
def formNames : List ByteArray := [mkS [113, 117, 111, 116, 101], mkS [108, 97, 109, 98, 100, 97], mkS [105, 102], mkS [115, 101, 116, 33], mkS [98, 101, 103, 105, 110], mkS [114, 101, 115, 101, 116], mkS [115, 104, 105, 102, 116], mkS [100, 101, 102, 105, 110, 101], mkS [100, 101, 102, 105, 110, 101, 45, 115, 121, 110, 116, 97, 120], mkS [108, 101, 116, 45, 115, 121, 110, 116, 97, 120], mkS [115, 121, 110, 116, 97, 120, 45, 114, 117, 108, 101, 115], mkS [108, 111, 99, 97, 108]]
def primNames : List ByteArray := [mkS [43], mkS [45], mkS [42], mkS [61], mkS [60], mkS [99, 111, 110, 115], mkS [99, 97, 114], mkS [99, 100, 114], mkS [110, 117, 108, 108, 63], mkS [112, 97, 105, 114, 63], mkS [110, 117, 109, 98, 101, 114, 63], mkS [101, 113, 63], mkS [110, 111, 116], mkS [100, 105, 115, 112, 108, 97, 121]]
abbrev Zmo  : Prop := CallOK Tryz.prog 209 [] [] [.arr true 1 (formNames.map strC)] (.sv (.one (.ref 0)))
theorem Zri : aexec Tryz.prog (Tryz.f209.body.getD .skip) (entry [] [] 2) [.fin [0]] (finK Tryz.prog [ResultVar.tmp 0] [Ob.arr true 1 (List.map
 strC formNames)] (AV.sv (SV.one (AC.ref 0)))) = (ObsEq [Ob.arr true 1 [[cS (ByteArray.mk #[(113 : UInt8), (117 : UInt8), (111 : UInt8), (116 : UInt8), (101 : UInt8)])], [cS
 (ByteArray.mk #[(108 : UInt8), (97 : UInt8), (109 : UInt8), (98 : UInt8), (100 : UInt8), (97 : UInt8)])], [cS (ByteArray.mk #[(105 : UInt8), (102 : UInt8)])], [cS (ByteArray.mk
 #[(115 : UInt8), (101 : UInt8), (116 : UInt8), (33 : UInt8)])], [cS (ByteArray.mk #[(98 : UInt8), (101 : UInt8), (103 : UInt8), (105 : UInt8), (110 : UInt8)])], [cS (ByteArray.mk
 #[(114 : UInt8), (101 : UInt8), (115 : UInt8), (101 : UInt8), (116 : UInt8)])], [cS (ByteArray.mk #[(115 : UInt8), (104 : UInt8), (105 : UInt8), (102 : UInt8), (116 : UInt8)])],
 [cS (ByteArray.mk #[(100 : UInt8), (101 : UInt8), (102 : UInt8), (105 : UInt8), (110 : UInt8), (101 : UInt8)])], [cS (ByteArray.mk #[(100 : UInt8), (101 : UInt8), (102 : UInt8),
 (105 : UInt8), (110 : UInt8), (101 : UInt8), (45 : UInt8), (115 : UInt8), (121 : UInt8), (110 : UInt8), (116 : UInt8), (97 : UInt8), (120 : UInt8)])], [cS (ByteArray.mk #[(108 :
 UInt8), (101 : UInt8), (116 : UInt8), (45 : UInt8), (115 : UInt8), (121 : UInt8), (110 : UInt8), (116 : UInt8), (97 : UInt8), (120 : UInt8)])], [cS (ByteArray.mk #[(115 : UInt8),
 (121 : UInt8), (110 : UInt8), (116 : UInt8), (97 : UInt8), (120 : UInt8), (45 : UInt8), (114 : UInt8), (117 : UInt8), (108 : UInt8), (101 : UInt8), (115 : UInt8)])], [cS
 (ByteArray.mk #[(108 : UInt8), (111 : UInt8), (99 : UInt8), (97 : UInt8), (108 : UInt8)])]]] [Ob.arr true 1 (List.map strC formNames)] /\ AV.sv (SV.one (AC.ref 0)) = AV.sv (SV.one
 (AC.ref 0))) := by kernel_rfl
theorem Zjq   : Zmo := by
  refine CallOK.ofRun wide (Zri) Tryz.call209 Tryz.func209 rfl rfl rfl ?_
  with_reducible repeat' (first | apply And.intro | exact flatI | exact flatS | exact rowLens | (intro; skip) | apply obsN | apply obsC | apply obA | apply obM | apply obB | apply svA | apply tupA | apply lcA | apply lcS | apply svC | apply liC | apply lbC | apply lsC | apply vIc | apply vBc | apply vSc | apply vLc | apply mapC)
  all_goals (try simp only [std] at *)
  all_goals (try (first | with_reducible rfl | omega | assumption | exact dT ‹_› | exact dF ‹_› | ((first | refine rowGet ?_ | refine getC ?_ rfl); (first | omega | (simp only [std]; omega) | grind)) | (show (_ : St) = _; rfl) | grind [snocI, snocS, rowSnoc]))
  all_goals rfl
abbrev Zf3  : Prop := CallOK Tryz.prog 210 [] [] [.arr true 1 (primNames.map strC)] (.sv (.one (.ref 0)))
theorem Zmp : aexec Tryz.prog (Tryz.f210.body.getD .skip) (entry [] [] 2) [.fin [0]] (finK Tryz.prog [ResultVar.tmp 0] [Ob.arr true 1
 (List.map strC primNames)] (AV.sv (SV.one (AC.ref 0)))) = (ObsEq [Ob.arr true 1 [[cS (ByteArray.mk #[(43 : UInt8)])], [cS (ByteArray.mk #[(45 : UInt8)])], [cS (ByteArray.mk #[(42
 : UInt8)])], [cS (ByteArray.mk #[(61 : UInt8)])], [cS (ByteArray.mk #[(60 : UInt8)])], [cS (ByteArray.mk #[(99 : UInt8), (111 : UInt8), (110 : UInt8), (115 : UInt8)])], [cS
 (ByteArray.mk #[(99 : UInt8), (97 : UInt8), (114 : UInt8)])], [cS (ByteArray.mk #[(99 : UInt8), (100 : UInt8), (114 : UInt8)])], [cS (ByteArray.mk #[(110 : UInt8), (117 : UInt8),
 (108 : UInt8), (108 : UInt8), (63 : UInt8)])], [cS (ByteArray.mk #[(112 : UInt8), (97 : UInt8), (105 : UInt8), (114 : UInt8), (63 : UInt8)])], [cS (ByteArray.mk #[(110 : UInt8),
 (117 : UInt8), (109 : UInt8), (98 : UInt8), (101 : UInt8), (114 : UInt8), (63 : UInt8)])], [cS (ByteArray.mk #[(101 : UInt8), (113 : UInt8), (63 : UInt8)])], [cS (ByteArray.mk
 #[(110 : UInt8), (111 : UInt8), (116 : UInt8)])], [cS (ByteArray.mk #[(100 : UInt8), (105 : UInt8), (115 : UInt8), (112 : UInt8), (108 : UInt8), (97 : UInt8), (121 : UInt8)])]]]
 [Ob.arr true 1 (List.map strC primNames)] /\ AV.sv (SV.one (AC.ref 0)) = AV.sv (SV.one (AC.ref 0))) := by kernel_rfl
theorem Zc1   : Zf3 := by
  refine CallOK.ofRun wide (Zmp) Tryz.call210 Tryz.func210 rfl rfl rfl ?_
  with_reducible repeat' (first | apply And.intro | exact flatI | exact flatS | exact rowLens | (intro; skip) | apply obsN | apply obsC | apply obA | apply obM | apply obB | apply svA | apply tupA | apply lcA | apply lcS | apply svC | apply liC | apply lbC | apply lsC | apply vIc | apply vBc | apply vSc | apply vLc | apply mapC)
  all_goals (try simp only [std] at *)
  all_goals (try (first | with_reducible rfl | omega | assumption | exact dT ‹_› | exact dF ‹_› | ((first | refine rowGet ?_ | refine getC ?_ rfl); (first | omega | (simp only [std]; omega) | grind)) | (show (_ : St) = _; rfl) | grind [snocI, snocS, rowSnoc]))
  all_goals rfl
abbrev Zmq  : Prop := CallOK Tryz.prog 219 [] [] [.arr true 1 (formNames.map strC)] (.sv (.one (.ref 0)))
theorem Zrj : aexec Tryz.prog (Tryz.f219.body.getD .skip) (entry [] [] 2) [.fin [0]] (finK Tryz.prog [ResultVar.tmp 0] [Ob.arr true 1 (List.map
 strC formNames)] (AV.sv (SV.one (AC.ref 0)))) = (ObsEq [Ob.arr true 1 [[cS (ByteArray.mk #[(113 : UInt8), (117 : UInt8), (111 : UInt8), (116 : UInt8), (101 : UInt8)])], [cS
 (ByteArray.mk #[(108 : UInt8), (97 : UInt8), (109 : UInt8), (98 : UInt8), (100 : UInt8), (97 : UInt8)])], [cS (ByteArray.mk #[(105 : UInt8), (102 : UInt8)])], [cS (ByteArray.mk
 #[(115 : UInt8), (101 : UInt8), (116 : UInt8), (33 : UInt8)])], [cS (ByteArray.mk #[(98 : UInt8), (101 : UInt8), (103 : UInt8), (105 : UInt8), (110 : UInt8)])], [cS (ByteArray.mk
 #[(114 : UInt8), (101 : UInt8), (115 : UInt8), (101 : UInt8), (116 : UInt8)])], [cS (ByteArray.mk #[(115 : UInt8), (104 : UInt8), (105 : UInt8), (102 : UInt8), (116 : UInt8)])],
 [cS (ByteArray.mk #[(100 : UInt8), (101 : UInt8), (102 : UInt8), (105 : UInt8), (110 : UInt8), (101 : UInt8)])], [cS (ByteArray.mk #[(100 : UInt8), (101 : UInt8), (102 : UInt8),
 (105 : UInt8), (110 : UInt8), (101 : UInt8), (45 : UInt8), (115 : UInt8), (121 : UInt8), (110 : UInt8), (116 : UInt8), (97 : UInt8), (120 : UInt8)])], [cS (ByteArray.mk #[(108 :
 UInt8), (101 : UInt8), (116 : UInt8), (45 : UInt8), (115 : UInt8), (121 : UInt8), (110 : UInt8), (116 : UInt8), (97 : UInt8), (120 : UInt8)])], [cS (ByteArray.mk #[(115 : UInt8),
 (121 : UInt8), (110 : UInt8), (116 : UInt8), (97 : UInt8), (120 : UInt8), (45 : UInt8), (114 : UInt8), (117 : UInt8), (108 : UInt8), (101 : UInt8), (115 : UInt8)])], [cS
 (ByteArray.mk #[(108 : UInt8), (111 : UInt8), (99 : UInt8), (97 : UInt8), (108 : UInt8)])]]] [Ob.arr true 1 (List.map strC formNames)] /\ AV.sv (SV.one (AC.ref 0)) = AV.sv (SV.one
 (AC.ref 0))) := by kernel_rfl
theorem Zjr   : Zmq := by
  refine CallOK.ofRun wide (Zrj) Tryz.call219 Tryz.func219 rfl rfl rfl ?_
  with_reducible repeat' (first | apply And.intro | exact flatI | exact flatS | exact rowLens | (intro; skip) | apply obsN | apply obsC | apply obA | apply obM | apply obB | apply svA | apply tupA | apply lcA | apply lcS | apply svC | apply liC | apply lbC | apply lsC | apply vIc | apply vBc | apply vSc | apply vLc | apply mapC)
  all_goals (try simp only [std] at *)
  all_goals (try (first | with_reducible rfl | omega | assumption | exact dT ‹_› | exact dF ‹_› | ((first | refine rowGet ?_ | refine getC ?_ rfl); (first | omega | (simp only [std]; omega) | grind)) | (show (_ : St) = _; rfl) | grind [snocI, snocS, rowSnoc]))
  all_goals rfl
abbrev Zf4  : Prop := CallOK Tryz.prog 220 [] [] [.arr true 1 (primNames.map strC)] (.sv (.one (.ref 0)))
theorem Zmr : aexec Tryz.prog (Tryz.f220.body.getD .skip) (entry [] [] 2) [.fin [0]] (finK Tryz.prog [ResultVar.tmp 0] [Ob.arr true 1
 (List.map strC primNames)] (AV.sv (SV.one (AC.ref 0)))) = (ObsEq [Ob.arr true 1 [[cS (ByteArray.mk #[(43 : UInt8)])], [cS (ByteArray.mk #[(45 : UInt8)])], [cS (ByteArray.mk #[(42
 : UInt8)])], [cS (ByteArray.mk #[(61 : UInt8)])], [cS (ByteArray.mk #[(60 : UInt8)])], [cS (ByteArray.mk #[(99 : UInt8), (111 : UInt8), (110 : UInt8), (115 : UInt8)])], [cS
 (ByteArray.mk #[(99 : UInt8), (97 : UInt8), (114 : UInt8)])], [cS (ByteArray.mk #[(99 : UInt8), (100 : UInt8), (114 : UInt8)])], [cS (ByteArray.mk #[(110 : UInt8), (117 : UInt8),
 (108 : UInt8), (108 : UInt8), (63 : UInt8)])], [cS (ByteArray.mk #[(112 : UInt8), (97 : UInt8), (105 : UInt8), (114 : UInt8), (63 : UInt8)])], [cS (ByteArray.mk #[(110 : UInt8),
 (117 : UInt8), (109 : UInt8), (98 : UInt8), (101 : UInt8), (114 : UInt8), (63 : UInt8)])], [cS (ByteArray.mk #[(101 : UInt8), (113 : UInt8), (63 : UInt8)])], [cS (ByteArray.mk
 #[(110 : UInt8), (111 : UInt8), (116 : UInt8)])], [cS (ByteArray.mk #[(100 : UInt8), (105 : UInt8), (115 : UInt8), (112 : UInt8), (108 : UInt8), (97 : UInt8), (121 : UInt8)])]]]
 [Ob.arr true 1 (List.map strC primNames)] /\ AV.sv (SV.one (AC.ref 0)) = AV.sv (SV.one (AC.ref 0))) := by kernel_rfl
theorem Zc2   : Zf4 := by
  refine CallOK.ofRun wide (Zmr) Tryz.call220 Tryz.func220 rfl rfl rfl ?_
  with_reducible repeat' (first | apply And.intro | exact flatI | exact flatS | exact rowLens | (intro; skip) | apply obsN | apply obsC | apply obA | apply obM | apply obB | apply svA | apply tupA | apply lcA | apply lcS | apply svC | apply liC | apply lbC | apply lsC | apply vIc | apply vBc | apply vSc | apply vLc | apply mapC)
  all_goals (try simp only [std] at *)
  all_goals (try (first | with_reducible rfl | omega | assumption | exact dT ‹_› | exact dF ‹_› | ((first | refine rowGet ?_ | refine getC ?_ rfl); (first | omega | (simp only [std]; omega) | grind)) | (show (_ : St) = _; rfl) | grind [snocI, snocS, rowSnoc]))
  all_goals rfl
end Go.Proofs.YtegbadciefljcaaGreat
end
