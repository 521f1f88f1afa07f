/- Part 5 of the proof: The program's BindVariable returns what the reference's returns, for all arguments. No condition. -/
import Derived.Test.YtegbadciefljcaaGreatBiV4
section
namespace Go.Proofs.YtegbadciefljcaaGreat
open Go Go.Proofs.YtegbadciefljcaaGreat.Ab
set_option linter.unusedVariables false
set_option linter.unusedSimpArgs false
set_option maxHeartbeats 4000000
def room1 (x : Expander) (id : Syntax) : Bool := clash x.bindings id.text id.scopes || decide ((x.bindings.length : Int) < 1000)
theorem Zuw (L : List Binding) (b : Binding) (h : L.length <= 1048577 /\ sumBy wB L <= 1048577 /\ wB b <= 1048577) (hy : (L.length : Int) < 1000 /\ clash L b.text b.scopes = false) :
    CallOK Tryz.prog 232 [.arr true 4 (L.map bindingC)] [.one (.ref 0), bindingA b] [.dead, .arr true 4 ((L ++ [b]).map bindingC)] (.tup [.one (.ref 1), lb true]) := by
  have g := Z11e L b h
  unfold Zvt at g
  rw [addB_yes (by rw [hy.2]; simp; omega), hy.2, decide_eq_false (by omega)] at g
  exact g
theorem room_no {x : Expander} {id : Syntax} (hy : room1 x id = false) : bvE x id = 8 /\ bmE x id = 8 := by
  simp only [room1, Bool.or_eq_false_iff, decide_eq_false_iff_not] at hy
  have e : bdE x id.text id.scopes = 8 := by unfold bdE; rw [hy.1, if_neg (by decide), if_pos (by omega)]
  unfold bvE bmE; rw [e]; exact ⟨ite_self _, ite_self _⟩
theorem Zux (x : Expander) (z : Int) (id : Syntax) (h : wX x <= 1048576 /\ wY id <= 1048576 /\ 0 <= x.vari) (hy : room1 x id = false) :
    CallOK Tryz.prog 114 (stV x z 0) [.one (.ptr 0 0), syntaxA id] [.box [vL ((if 99999 <= x.vari then x.bindings else bdL x id 3 (x.vari + 1)).map bindingC), .ref 1, vI x.scope, vI (if 99999 <= x.vari then x.vari else x.vari + 1), vI x.steps, vI z, vI 8], .arr true 3 (x.macros.map rulesC)] (.sv (li (if 99999 <= x.vari then 0 else x.vari + 1))) := by
  have g := Z11f x z 0 id h
  unfold Zye at g
  rw [(room_no hy).1] at g
  exact g
abbrev Ztj (x : Expander) (z : Int) (c : Int) (id : Syntax) (kind : Int) (n : Int) : Prop := CallOK Tryz.prog 192 (stO x z c) [.one (.ptr 0 0), syntaxA id, li kind, li n] [.box [.ref 3, .ref 2, vI x.scope, vI x.vari, vI x.steps, vI z, vI (if bdE x id.text id.scopes = 0 then c else cdF c (bdE x id.text id.scopes))], .dead, .arr true 3 (x.macros.map rulesC), .arr true 4 ((bdL x id kind n).map bindingC)] (.tup [])
abbrev Zgv (x : Expander) (z : Int) (c : Int) (id : Syntax) (kind : Int) (n : Int) := [Ob.box [AC.ref 3, AC.ref 2, vI (Expander.scope x), vI (Expander.vari x), vI
 (Expander.steps x), vI z, vI (if bdE x (Syntax.text id) (Syntax.scopes id) = 0 then c else cdF c (bdE x (Syntax.text id) (Syntax.scopes id)))], Ob.dead, Ob.arr true 3 (List.map
 rulesC (Expander.macros x)), Ob.arr true 4 (List.map bindingC (bdL x id kind n))]
abbrev Zgw (x : Expander) (id : Syntax) (kind : Int) (n : Int) := (List.map bindingC (Expander.bindings x ++ [Binding.mk (Syntax.text id) (Syntax.scopes id) kind n]))
theorem Zyi (x : Expander) (z : Int) (c : Int) (id : Syntax) (kind : Int) (n : Int) : aexec Tryz.prog (Tryz.f192.body.getD .skip) (entry (stO x z c)
 [SV.one (AC.ptr 0 0), syntaxA id, li kind, li n] 46) [.draw [], .call [Mode.rd, Mode.rd] [] (AV.sv (lb (clash (Expander.bindings x) (Syntax.text id) (Syntax.scopes id)))),
 .br [.call [Mode.ptr, Mode.rd] (stO x z (cdF c 4)) (AV.sv (SV.agg [vI 0, vI 0, AC.val (Cell.lit (Value.slice none 0 0)), vI 0, vI 0, vS (mkS []), AC.val (Cell.lit
 (Value.slice none 0 0)), AC.val (Cell.lit (Value.slice none 0 0))])), .ghost (.move 1), .fin [5]] [.draw [(6, [1])], .call [Mode.own true 4, Mode.rd] [Ob.dead,
 Ob.arr true 4 (Zgw x id kind n)] (AV.tup [SV.one (AC.ref 1), lb true]), .bool false, .fin [6]]] (finK Tryz.prog [] (Zgv x z c id kind n) (AV.tup [])) =
 (Zec (Expander.bindings x) (Binding.mk (Syntax.text id) (Syntax.scopes id) kind n) /\ (clash (Expander.bindings x) (Syntax.text id) (Syntax.scopes id) = true -> Zpw x z
 c 4 /\ ObsEq [Ob.box [AC.ref 3, AC.ref 2, vI (Expander.scope x), vI (Expander.vari x), vI (Expander.steps x), vI z, vI (cdF c 4)], Ob.dead, Ob.arr true 3 (List.map rulesC
 (Expander.macros x)), Ob.arr true 4 (List.map bindingC (Expander.bindings x))] (Zgv x z c id kind n) /\ AV.tup [] = AV.tup []) /\ (clash (Expander.bindings x) (Syntax.text
 id) (Syntax.scopes id) = false -> CallOK Tryz.prog 232 [Ob.arr true 4 (List.map bindingC (Expander.bindings x))] [SV.one (AC.ref 0), bindingA (Binding.mk (Syntax.text id)
 (Syntax.scopes id) kind n)] [Ob.dead, Ob.arr true 4 (Zgw x id kind n)] (AV.tup [SV.one (AC.ref 1), lb true]) /\ false = false /\ ObsEq [Ob.box [AC.ref 3, AC.ref 2, vI
 (Expander.scope x), vI (Expander.vari x), vI (Expander.steps x), vI z, vI c], Ob.dead, Ob.arr true 3 (List.map rulesC (Expander.macros x)), Ob.arr true 4 (Zgw x id kind
 n)] (Zgv x z c id kind n) /\ AV.tup [] = AV.tup [])) := by kernel_rfl
theorem Zru (x : Expander) (z c : Int) (id : Syntax) (kind n : Int) (h : wX x <= 1048576 /\ wY id <= 1048576) (hy : room1 x id = true)  : Ztj x z c id kind n := by
  refine CallOK.ofRun wide (Zyi x z c id kind n) Tryz.call192 Tryz.func192 rfl rfl rfl ?_
  try delta Zgv Zgw
  have g1 := wX_eq x
  have g2 := wY_eq id
  have g3 : wB ⟨id.text, id.scopes, kind, n⟩ = id.text.size + id.scopes.length := rfl
  with_reducible repeat' (first | apply And.intro | exact flatI | exact flatS | exact rowLens | (intro; skip) | apply obsN | apply obsC | apply obA | apply obM | apply obB | apply svA | apply tupA | apply lcA | apply lcS | apply svC | apply liC | apply lbC | apply lsC | apply vIc | apply vBc | apply vSc | apply vLc | apply mapC | apply Z1h | apply Zuw | apply Zj7)
  all_goals (try simp only [std] at *)
  all_goals (try (first | with_reducible apply Z1h | with_reducible apply Zuw | with_reducible apply Zj7 | (simp only [<- List.map_append]; first | with_reducible apply Z1h | with_reducible apply Zuw | with_reducible apply Zj7)))
  all_goals (try (first | with_reducible rfl | omega | assumption | exact dT ‹_› | exact dF ‹_› | ((first | refine rowGet ?_ | refine getC ?_ rfl); (first | omega | (simp only [std]; omega) | grind)) | (show (_ : St) = _; rfl) | grind [bdE, bdL, room1, snocI, snocS, rowSnoc]))
abbrev Zvu (x : Expander) (z : Int) (c : Int) (id : Syntax) : Prop := CallOK Tryz.prog 114 (stO x z c) [.one (.ptr 0 0), syntaxA id] [.box [.ref 3, .ref 2, vI x.scope, vI (if 99999 <= x.vari then x.vari else x.vari + 1), vI x.steps, vI z, vI (if bvE x id = 0 then c else cdF c (bvE x id))], .dead, .arr true 3 (x.macros.map rulesC), .arr true 4 ((if 99999 <= x.vari then x.bindings else bdL x id 3 (x.vari + 1)).map bindingC)] (.sv (li (if 99999 <= x.vari then 0 else x.vari + 1)))
abbrev Zit (x : Expander) (z : Int) (c : Int) (id : Syntax) := [Ob.box [AC.ref 3, AC.ref 2, vI (Expander.scope x), vI (if 99999 ≤ Expander.vari x then Expander.vari x else
 Expander.vari x + 1), vI (Expander.steps x), vI z, vI (if bvE x id = 0 then c else cdF c (bvE x id))], Ob.dead, Ob.arr true 3 (List.map rulesC (Expander.macros x)), Ob.arr true 4
 (List.map bindingC (if 99999 ≤ Expander.vari x then Expander.bindings x else bdL x id 3 (Expander.vari x + 1)))]
theorem Zzx (x : Expander) (z : Int) (c : Int) (id : Syntax) : aexec Tryz.prog (Tryz.f114.body.getD .skip) (entry (stO x z c) [SV.one (AC.ptr 0 0),
 syntaxA id] 36) [.br [.call [Mode.ptr, Mode.rd] (stO x z (cdF c 8)) (AV.sv (SV.agg [vI 0, vI 0, AC.val (Cell.lit (Value.slice none 0 0)), vI 0, vI 0, vS (mkS []), AC.val
 (Cell.lit (Value.slice none 0 0)), AC.val (Cell.lit (Value.slice none 0 0))])), .ghost (.move 1), .fin [4]] [.draw [(8, [0, 1, 2])], .call [Mode.ptr, Mode.rd,
 Mode.rd, Mode.rd] [Ob.box [AC.ref 3, AC.ref 2, vI (Expander.scope x), vI (Expander.vari x), vI (Expander.steps x), vI z, vI (if bdE x (Syntax.text id) (Syntax.scopes id) = 0 then
 c else cdF c (bdE x (Syntax.text id) (Syntax.scopes id)))], Ob.dead, Ob.arr true 3 (List.map rulesC (Expander.macros x)), Ob.arr true 4 (List.map bindingC (bdL x id 3
 (Expander.vari x + 1)))] (AV.tup []), .fin [7]]] (finK Tryz.prog [ResultVar.tmp 4] (Zit x z c id) (AV.sv (li (if 99999 <= Expander.vari x then 0 else Expander.vari x +
 1)))) = ((decide (99999 <= Expander.vari x) = true -> Zpw x z c 8 /\ ObsEq [Ob.box [AC.ref 3, AC.ref 2, vI (Expander.scope x), vI (Expander.vari x), vI (Expander.steps x), vI
 z, vI (cdF c 8)], Ob.dead, Ob.arr true 3 (List.map rulesC (Expander.macros x)), Ob.arr true 4 (List.map bindingC (Expander.bindings x))] (Zit x z c id) /\ AV.sv (li 0) =
 AV.sv (li (if 99999 <= Expander.vari x then 0 else Expander.vari x + 1))) /\ (decide (99999 <= Expander.vari x) = false -> rng .i64 (Expander.vari x + 1) /\ Ztj x z c id
 3 (Expander.vari x + 1) /\ rng .i64 (Expander.vari x + 1) /\ ObsEq [Ob.box [AC.ref 3, AC.ref 2, vI (Expander.scope x), vI (Expander.vari x + 1), vI (Expander.steps x), vI z,
 vI (if bdE x (Syntax.text id) (Syntax.scopes id) = 0 then c else cdF c (bdE x (Syntax.text id) (Syntax.scopes id)))], Ob.dead, Ob.arr true 3 (List.map rulesC (Expander.macros x)),
 Ob.arr true 4 (List.map bindingC (bdL x id 3 (Expander.vari x + 1)))] (Zit x z c id) /\ AV.sv (li (Expander.vari x + 1)) = AV.sv (li (if 99999 <= Expander.vari x then 0 else
 Expander.vari x + 1)))) := by kernel_rfl
theorem Zuy (x : Expander) (z c : Int) (id : Syntax) (h : wX x <= 1048576 /\ wY id <= 1048576 /\ 0 <= x.vari) (hy : room1 x id = true)  : Zvu x z c id := by
  refine CallOK.ofRun wide (Zzx x z c id) Tryz.call114 Tryz.func114 rfl rfl rfl ?_
  try delta Zit
  have g2 : bvE x id = if 99999 <= x.vari then 8 else bdE x id.text id.scopes := rfl
  with_reducible repeat' (first | apply And.intro | exact flatI | exact flatS | exact rowLens | (intro; skip) | apply obsN | apply obsC | apply obA | apply obM | apply obB | apply svA | apply tupA | apply lcA | apply lcS | apply svC | apply liC | apply lbC | apply lsC | apply vIc | apply vBc | apply vSc | apply vLc | apply mapC | apply Zj7 | apply Zru)
  all_goals (try simp only [std] at *)
  all_goals (try (first | with_reducible apply Zj7 | with_reducible apply Zru | (simp only [<- List.map_append]; first | with_reducible apply Zj7 | with_reducible apply Zru)))
  all_goals (try (first | with_reducible rfl | omega | assumption | exact dT ‹_› | exact dF ‹_› | ((first | refine rowGet ?_ | refine getC ?_ rfl); (first | omega | (simp only [std]; omega) | grind)) | (show (_ : St) = _; rfl) | grind [snocI, snocS, rowSnoc]))
abbrev Zrv (x : Expander) (id : Syntax) : Prop := CallOK Tryz.prog 51 [] [expanderA x, syntaxA id] [.arr true 4 ((bvL x id).map bindingC), .arr true 3 (x.macros.map rulesC)] (.tup [.agg [.ref 0, .ref 1, vI x.scope, vI (bvV x id), vI x.steps], li (bvN x id)])
abbrev Zh5 (x : Expander) (id : Syntax) := [SV.agg [AC.ref 0, AC.ref 1, vI (Expander.scope x), vI (bvV x id), vI (Expander.steps x)], li (bvN x id)]
abbrev Zh6 (x : Expander) (id : Syntax) := [Ob.arr true 4 (List.map bindingC (bvL x id)), Ob.arr true 3 (List.map rulesC (Expander.macros x))]
theorem Z10p (x : Expander) (id : Syntax) : aexec Tryz.prog (Tryz.f51.body.getD .skip) (entry [] [expanderA x, syntaxA id] 33) [.call [Mode.rd, Mode.rd]
 [] (AV.sv (lb (idX x id))), .br [.call [Mode.rd] (expanderO x) (AV.sv (expanderR x 0)), .fin [3, 4]] [.call [Mode.rd] (expanderO x) (AV.sv (expanderR x 0)), .call
 [Mode.ptr, Mode.rd] [Ob.box [AC.ref 3, AC.ref 2, vI (Expander.scope x), vI (if 99999 <= Expander.vari x then Expander.vari x else Expander.vari x + 1), vI (Expander.steps x), vI 0,
 vI (if bvE x id = 0 then 0 else cdF 0 (bvE x id))], Ob.dead, Ob.arr true 3 (List.map rulesC (Expander.macros x)), Ob.arr true 4 (List.map bindingC (if 99999 <= Expander.vari x then
 Expander.bindings x else bdL x id 3 (Expander.vari x + 1)))] (AV.sv (li (if 99999 <= Expander.vari x then 0 else Expander.vari x + 1))), .br [.call [Mode.rd] (expanderO x)
 (AV.sv (expanderR x 0)), .fin [10, 11]] [.fin [9, 4]]]] (finK Tryz.prog [ResultVar.cell 4 49, ResultVar.tmp 5] (Zh6 x id) (AV.tup (Zh5 x id))) = (Zrs x id /\
 ((!idX x id) = true -> Z9j x /\ ObsEq [Ob.arr true 4 (List.map bindingC (Expander.bindings x)), Ob.arr true 3 (List.map rulesC (Expander.macros x))] (Zh6 x id) /\ AV.tup
 [SV.agg [AC.ref 0, AC.ref 1, vI (Expander.scope x), vI (Expander.vari x), vI (Expander.steps x)], li 0] = AV.tup (Zh5 x id)) /\ ((!idX x id) = false -> Z9j x /\
 Zvu x 0 0 id /\ (decide ((if bvE x id = 0 then 0 else cdF 0 (bvE x id)) ≠ 0) = true -> Z9j x /\ ObsEq [Ob.arr true 4 (List.map bindingC (Expander.bindings x)), Ob.arr
 true 3 (List.map rulesC (Expander.macros x))] (Zh6 x id) /\ AV.tup [SV.agg [AC.ref 0, AC.ref 1, vI (Expander.scope x), vI (Expander.vari x), vI (Expander.steps x)], li 0] =
 AV.tup (Zh5 x id)) /\ (decide ((if bvE x id = 0 then 0 else cdF 0 (bvE x id)) ≠ 0) = false -> ObsEq [Ob.arr true 4 (List.map bindingC (if 99999 <= Expander.vari x then
 Expander.bindings x else bdL x id 3 (Expander.vari x + 1))), Ob.arr true 3 (List.map rulesC (Expander.macros x))] (Zh6 x id) /\ AV.tup [SV.agg [AC.ref 0, AC.ref 1, vI
 (Expander.scope x), vI (if 99999 <= Expander.vari x then Expander.vari x else Expander.vari x + 1), vI (Expander.steps x)], li (if 99999 <= Expander.vari x then 0 else Expander.vari
 x + 1)] = AV.tup (Zh5 x id)))) := by kernel_rfl
theorem Z11g (x : Expander) (id : Syntax) (h : wX x <= 1048576 /\ wY id <= 1048576) (hy : room1 x id = true)  : Zrv x id := by
  refine CallOK.ofRun wide (Z10p x id) Tryz.call51 Tryz.func51 rfl rfl rfl ?_
  try delta Zh5 Zh6
  have g1 := @isExp_scope x
  have g2 : bvE x id = if 99999 <= x.vari then 8 else bdE x id.text id.scopes := rfl
  have g3 := @bdL_yes x id 3 (x.vari + 1)
  have g5 : idX x id = true -> isExp x = true := fun h => by simp only [idX, Bool.and_eq_true] at h; exact h.1.1
  with_reducible repeat' (first | apply And.intro | exact flatI | exact flatS | exact rowLens | (intro; skip) | apply obsN | apply obsC | apply obA | apply obM | apply obB | apply svA | apply tupA | apply lcA | apply lcS | apply svC | apply liC | apply lbC | apply lsC | apply vIc | apply vBc | apply vSc | apply vLc | apply mapC | apply Zmt | apply Zfl | apply Zuy)
  all_goals (try simp only [std] at *)
  all_goals (try (first | with_reducible apply Zmt | with_reducible apply Zfl | with_reducible apply Zuy | (simp only [<- List.map_append]; first | with_reducible apply Zmt | with_reducible apply Zfl | with_reducible apply Zuy)))
  all_goals (try (first | with_reducible rfl | omega | assumption | exact dT ‹_› | exact dF ‹_› | ((first | refine rowGet ?_ | refine getC ?_ rfl); (first | omega | (simp only [std]; omega) | grind)) | (show (_ : St) = _; rfl) | grind [bvL, bvV, bvN, bvB, cdF, snocI, snocS, rowSnoc]))
abbrev Z11c (x : Expander) (id : Syntax) : Prop := CallOK Tryz.prog 51 [] [expanderA x, syntaxA id] [.arr true 4 ((bvL x id).map bindingC), .arr true 3 (x.macros.map rulesC)] (.tup [.agg [.ref 0, .ref 1, vI x.scope, vI (bvV x id), vI x.steps], li (bvN x id)])
abbrev Zpx (x : Expander) (id : Syntax) := [Ob.box [vL (List.map bindingC (if 99999 ≤ Expander.vari x then Expander.bindings x else bdL x id 3 (Expander.vari x + 1))), AC.ref
 1, vI (Expander.scope x), vI (if 99999 ≤ Expander.vari x then Expander.vari x else Expander.vari x + 1), vI (Expander.steps x), vI 0, vI 8], Ob.arr true 3 (List.map rulesC
 (Expander.macros x))]
abbrev Zkt (x : Expander) (id : Syntax) := [SV.agg [AC.ref 0, AC.ref 1, vI (Expander.scope x), vI (bvV x id), vI (Expander.steps x)], li (bvN x id)]
abbrev Zku (x : Expander) (id : Syntax) := [Ob.arr true 4 (List.map bindingC (bvL x id)), Ob.arr true 3 (List.map rulesC (Expander.macros x))]
theorem Z10q (x : Expander) (id : Syntax) : aexec Tryz.prog (Tryz.f51.body.getD .skip) (entry [] [expanderA x, syntaxA id] 33) [.call [Mode.rd, Mode.rd]
 [] (AV.sv (lb (idX x id))), .br [.call [Mode.rd] (expanderO x) (AV.sv (expanderR x 0)), .fin [3, 4]] [.call [Mode.rd] (expanderO x) (AV.sv (expanderR x 0)), .ghost
 (.lock 3), .call [Mode.ptr, Mode.rd] (Zpx x id) (AV.sv (li (if 99999 <= Expander.vari x then 0 else Expander.vari x + 1))), .bool true, .call [Mode.rd]
 (expanderO x) (AV.sv (expanderR x 0)), .fin [6, 7]]] (finK Tryz.prog [ResultVar.cell 4 49, ResultVar.tmp 5] (Zku x id) (AV.tup (Zkt x id))) = (Zrs x id /\
 ((!idX x id) = true -> Z9j x /\ ObsEq [Ob.arr true 4 (List.map bindingC (Expander.bindings x)), Ob.arr true 3 (List.map rulesC (Expander.macros x))] (Zku x id) /\ AV.tup
 [SV.agg [AC.ref 0, AC.ref 1, vI (Expander.scope x), vI (Expander.vari x), vI (Expander.steps x)], li 0] = AV.tup (Zkt x id)) /\ ((!idX x id) = false -> Z9j x /\ CallOK
 Tryz.prog 114 (stV x 0 0) [SV.one (AC.ptr 0 0), syntaxA id] (Zpx x id) (AV.sv (li (if 99999 <= Expander.vari x then 0 else Expander.vari x + 1))) /\ true = true /\ Z9j x
 /\ ObsEq [Ob.arr true 4 (List.map bindingC (Expander.bindings x)), Ob.arr true 3 (List.map rulesC (Expander.macros x))] (Zku x id) /\ AV.tup [SV.agg [AC.ref 0, AC.ref 1, vI
 (Expander.scope x), vI (Expander.vari x), vI (Expander.steps x)], li 0] = AV.tup (Zkt x id))) := by kernel_rfl
theorem Z11h (x : Expander) (id : Syntax) (h : wX x <= 1048576 /\ wY id <= 1048576) (hy : room1 x id = false)  : Z11c x id := by
  refine CallOK.ofRun wide (Z10q x id) Tryz.call51 Tryz.func51 rfl rfl rfl ?_
  try delta Zpx Zkt Zku
  have g1 := @isExp_scope x
  have g5 : idX x id = true -> isExp x = true := fun h => by simp only [idX, Bool.and_eq_true] at h; exact h.1.1
  have g6 := (room_no hy).1
  with_reducible repeat' (first | apply And.intro | exact flatI | exact flatS | exact rowLens | (intro; skip) | apply obsN | apply obsC | apply obA | apply obM | apply obB | apply svA | apply tupA | apply lcA | apply lcS | apply svC | apply liC | apply lbC | apply lsC | apply vIc | apply vBc | apply vSc | apply vLc | apply mapC | apply Zmt | apply Zfl | apply Zux)
  all_goals (try simp only [std] at *)
  all_goals (try (first | with_reducible apply Zmt | with_reducible apply Zfl | with_reducible apply Zux | (simp only [<- List.map_append]; first | with_reducible apply Zmt | with_reducible apply Zfl | with_reducible apply Zux)))
  all_goals (try (first | with_reducible rfl | omega | assumption | exact dT ‹_› | exact dF ‹_› | ((first | refine rowGet ?_ | refine getC ?_ rfl); (first | omega | (simp only [std]; omega) | grind)) | (show (_ : St) = _; rfl) | grind [bvL, bvV, bvN, bvB, snocI, snocS, rowSnoc]))
theorem Zuz (x : Expander) (id : Syntax) (h : wX x <= 1048576 /\ wY id <= 1048576) : Zrv x id := by
  cases e : room1 x id with
  | true => exact Z11g x id h e
  | false => exact Z11h x id h e
end Go.Proofs.YtegbadciefljcaaGreat
end
section
namespace Go.Proofs.YtegbadciefljcaaGreat
open Go Go.Proofs.YtegbadciefljcaaGreat.Ab
set_option linter.unusedVariables false
set_option linter.unusedSimpArgs false
set_option maxHeartbeats 4000000
abbrev Zet (L : List Int) (n : Int) : Prop := CallOK Tryz.prog 74 [.arr true 1 (L.map intC)] [.one (.ref 0), li n] [.arr true 1 ((seqM mkI cOne L n).map intC)] (.sv (li (n + L.length)))
def Zd0 (L : List Int) (n : Int) (x0 : SV) (x1 : SV) (x2 : Ob) : St := St.mk (regsOf 19 [(0, AV.sv (SV.one (AC.ref 0))), (1, AV.sv x1), (5, AV.sv x0)]) [x2] 1 
def Z2r (L : List Int) (n : Int) (k : Nat) : St := Zd0 L n (li (k : Int)) (li (n + (k : Int))) (Ob.arr true 1 (List.map intC (mkTo mkI cOne L n k))) 
abbrev Z7f (L : List Int) (n : Int) : Nat -> St -> Prop := Head (Z2r L n) (fun k => k <= List.length L /\ List.length L <= 9223372036854775807) fun k => List.length L -
 k 
def Z6e (L : List Int) (n : Int) (x0 : SV) (x1 : Ob) : St := St.mk (regsOf 19 [(1, AV.sv x0)]) [x1] 1 
def Zhs (L : List Int) (n : Int) : List (Prop × AEx × St) := [(True, AEx.exit 0, Z6e L n (li (n + (↑(List.length L) : Int))) (Ob.arr true 1 (List.map intC
 (seqM mkI cOne L n))))]

theorem Zoh {L : List Int} {n : Int} {k : Nat} {x0 : SV} {x1 : SV} {x2 : Ob} (h0 : x0 = (li (k : Int))) (h1 : x1 = (li (n + (k : Int)))) (h2 : x2 = (Ob.arr true 1
 (List.map intC (mkTo mkI cOne L n k)))) : Zd0 L n x0 x1 x2 = Z2r L n k := by
  rw [h0, h1, h2]
  rfl
theorem Zkv {L : List Int} {n : Int} {x0 y0 : SV} {x1 y1 : Ob} (h0 : x0 = y0) (h1 : x1 = y1) : Z6e L n x0 x1 = Z6e L n y0 y1 := by rw [h0, h1]
theorem Zrw (L : List Int) (n : Int) (k : Nat) : aexec Tryz.prog (loopAt Tryz.f74 0) (Z2r L n k) [.br [.cells (intC (List.getD L (Int.toNat (k : Int))
 default)), .ghost (.sel [0] [0, 1, 5]), .goto (List.length L - (k + 1)) (Z2r L n (k + 1))] [.ghost (.sel [0] [1]), .out 0]] (loopK (Z7f L
 n) (Zhs L n) (List.length L - k)) = (List.length (List.map intC (mkTo mkI cOne L n k)) <= 9223372036854775807 -> (decide ((k : Int) < (↑(List.length (List.map intC (mkTo
 mkI cOne L n k))) : Int)) = true -> (0 <= (k : Int) /\ Int.toNat (k : Int) < List.length (List.map intC (mkTo mkI cOne L n k))) /\ (List.map intC (mkTo mkI cOne L n k))[Int.toNat
 (k : Int)]? = some [cI (List.getD L (Int.toNat (k : Int)) 0)] /\ rng .i64 (n + (k : Int) + 1) /\ rng .i64 ((k : Int) + 1) /\ List.length L - (k + 1) < List.length L
 - k /\ Zd0 L n (li ((k : Int) + 1)) (li (n + (k : Int) + 1)) (Ob.arr true 1 (List.set (List.map intC (mkTo mkI cOne L n k)) (Int.toNat (k : Int)) [cI (n + (↑k :
 Int))])) = Z2r L n (k + 1) /\ Z7f L n (List.length L - (k + 1)) (Z2r L n (k + 1))) /\ (decide ((k : Int) < (↑(List.length (List.map intC (mkTo mkI
 cOne L n k))) : Int)) = false -> True /\ Z6e L n (li (n + (k : Int))) (Ob.arr true 1 (List.map intC (mkTo mkI cOne L n k))) = Z6e L n (li (n + (↑(List.length
 L) : Int))) (Ob.arr true 1 (List.map intC (seqM mkI cOne L n))))) := by kernel_rfl
theorem Zwo (L : List Int) (n : Int) (h0 : 0 <= n) (h : n + (↑(List.length L) : Int) <= 2147483647)  : LoopSem Tryz.prog (loopAt Tryz.f74 0) (Z7f L n)
 (Zhs L n) := by
  refine LoopSem.ofHead wide fun k h => ⟨_, _, Zrw L n k, ?_⟩
  with_reducible repeat' (first | apply And.intro | exact flatI | exact flatS | exact rowLens | (intro; skip) | apply obsN | apply obsC | apply obA | apply obM | apply obB | apply svA | apply tupA | apply lcA | apply lcS | apply svC | apply liC | apply lbC | apply lsC | apply vIc | apply vBc | apply vSc | apply vLc | apply mapC | apply hdI | apply Zoh | apply Zkv)
  all_goals (try simp only [std, stdM] at *)
  all_goals (try (first | with_reducible rfl | omega | assumption | exact dT ‹_› | exact dF ‹_› | ((first | refine rowGet ?_ | refine getC ?_ rfl); (first | omega | (simp only [std, stdM]; omega) | grind)) | (refine set_row ?_; (simp only [List.length_map, List.length_set, mkTo_len]; omega)) | (refine mkToRow ?_; (first | omega | (simp only [std, stdM]; omega) | grind)) | (refine mkTo_row ?_ rfl; (first | omega | (simp only [std, stdM]; omega) | grind)) | (refine mkTo_step ?_ ?_; (first | omega | (simp only [std, stdM]; omega) | grind); (first | grind [mkTo_all, mkI, cOne_take, intC, mkTo_get, snocI, snocS, rowSnoc])) | (show (_ : St) = _; rfl) | grind [mkTo_all, mkI, cOne_take, intC, mkTo_get, snocI, snocS, rowSnoc]))
theorem Zv0 (L : List Int) (n : Int) : aexec Tryz.prog (Tryz.f74.body.getD .skip) (entry [Ob.arr true 1 (List.map intC L)] [SV.one (AC.ref 0), li n]
 19) [.ghost (.sel [0] [0, 1, 5]), .loop (List.length L - 0) (Z2r L n 0) (Z7f L n) [(True, AEx.exit 0, Z6e L n (li (n + (↑(List.length L)
 : Int))) (Ob.arr true 1 (List.map intC (seqM mkI cOne L n))), [.fin []])]] (finK Tryz.prog [ResultVar.tmp 4] [Ob.arr true 1 (List.map intC (seqM mkI cOne L n))] (AV.sv (li (n +
 (↑(List.length L) : Int))))) = (Zd0 L n (li 0) (li n) (Ob.arr true 1 (List.map intC L)) = Z2r L n 0 /\ Z7f L n (List.length L - 0) (Z2r L n
 0) /\ LoopSem Tryz.prog (loopAt Tryz.f74 0) (Z7f L n) (Zhs L n) /\ (True -> ObsEq [Ob.arr true 1 (List.map intC (seqM mkI cOne L n))] [Ob.arr true 1 (List.map
 intC (seqM mkI cOne L n))] /\ AV.sv (li (n + (↑(List.length L) : Int))) = AV.sv (li (n + (↑(List.length L) : Int)))) /\ True) := by kernel_rfl
theorem Zz (L : List Int) (n : Int) (h0 : 0 <= n) (h : n + L.length <= 2147483647)  : Zet L n := by
  refine CallOK.ofRun wide (Zv0 L n) Tryz.call74 Tryz.func74 rfl rfl rfl ?_
  with_reducible repeat' (first | apply And.intro | exact flatI | exact flatS | exact rowLens | (intro; skip) | apply obsN | apply obsC | apply obA | apply obM | apply obB | apply svA | apply tupA | apply lcA | apply lcS | apply svC | apply liC | apply lbC | apply lsC | apply vIc | apply vBc | apply vSc | apply vLc | apply mapC | apply hdI | apply Zoh | apply Zwo | apply Zkv)
  all_goals (try simp only [std, stdM] at *)
  all_goals (try (first | with_reducible rfl | omega | assumption | exact dT ‹_› | exact dF ‹_› | ((first | refine rowGet ?_ | refine getC ?_ rfl); (first | omega | (simp only [std, stdM]; omega) | grind)) | (refine set_row ?_; (simp only [List.length_map, List.length_set, mkTo_len]; omega)) | (refine mkToRow ?_; (first | omega | (simp only [std, stdM]; omega) | grind)) | (refine mkTo_row ?_ rfl; (first | omega | (simp only [std, stdM]; omega) | grind)) | (refine mkTo_step ?_ ?_; (first | omega | (simp only [std, stdM]; omega) | grind); (first | grind [mkTo_zero, snocI, snocS, rowSnoc])) | (show (_ : St) = _; rfl) | grind [mkTo_zero, snocI, snocS, rowSnoc]))
abbrev Zb1 (n : Int) : Prop := CallOK Tryz.prog 73 [] [li n] [] (.sv (ls (mText n)))
def Zd1 (n : Int) (x0 : SV) (x1 : SV) : St := St.mk (regsOf 20 [(0, AV.sv x0), (3, AV.sv x1)]) [] 0 
def Z2s (n : Int) (k : Int × List UInt8) : St := Zd1 n (li (Prod.fst k)) (ls (mkS (Prod.snd k))) 
abbrev Z7g (n : Int) : Nat -> St -> Prop := Head (Z2s n) (fun k => 0 <= Prod.fst k /\ Prod.fst k <= n /\ digs (Int.toNat (Prod.fst k)) ++ Prod.snd k = digs (Int.toNat
 n)) fun k => Int.toNat (Prod.fst k) 
def Z6f (n : Int) (x0 : SV) : St := St.mk (regsOf 20 [(3, AV.sv x0)]) [] 0 
def Zht (n : Int) : List (Prop × AEx × St) := [(True, AEx.exit 0, Z6f n (ls (mkS (digs (Int.toNat n)))))]

theorem Zoi {n : Int} {k : Int × List UInt8} {x0 : SV} {x1 : SV} (h0 : x0 = (li (Prod.fst k))) (h1 : x1 = (ls (mkS (Prod.snd k)))) : Zd1 n x0 x1 = Z2s
 n k := by
  rw [h0, h1]
  rfl
theorem Ztk {n : Int} {x0 y0 : SV} (h0 : x0 = y0) : Z6f n x0 = Z6f n y0 := by rw [h0]
abbrev Z4w (k : Int × List UInt8) := [UInt8.ofNat (Int.toNat (48 + Int.tmod (Prod.fst k) 10))]
theorem Zrx (n : Int) (k : Int × List UInt8) : aexec Tryz.prog (loopAt Tryz.f73 0) (Z2s n k) [.br [.bytes (Z4w k), .ghost (.sel []
 [0, 3]), .goto (Int.toNat (Int.tdiv (Prod.fst k) 10)) (Z2s n (Int.tdiv (Prod.fst k) 10, (Z4w k) ++ Prod.snd k))] [.ghost (.sel [] [3]), .out
 0]] (loopK (Z7g n) (Zht n) (Int.toNat (Prod.fst k))) = ((decide (0 < Prod.fst k) = true -> (10 : Int) ≠ 0 /\ rng .i64 (48 + Int.tmod (Prod.fst k) 10) /\
 rng IntKind.u8 (48 + Int.tmod (Prod.fst k) 10) /\ [[Cell.lit (Value.int IntKind.u8 (48 + Int.tmod (Prod.fst k) 10))]] = [[Cell.lit (Value.int IntKind.u8 (↑(UInt8.toNat (UInt8.ofNat
 (Int.toNat (48 + Int.tmod (Prod.fst k) 10)))) : Int))]] /\ 1 + List.length (Prod.snd k) <= 9223372036854775807 /\ (10 : Int) ≠ 0 /\ rng .i64 (Int.tdiv (Prod.fst k) 10) /\
 Int.toNat (Int.tdiv (Prod.fst k) 10) < Int.toNat (Prod.fst k) /\ Zd1 n (li (Int.tdiv (Prod.fst k) 10)) (ls (ByteArray.mk (List.toArray ((Z4w k) ++ Prod.snd
 k)))) = Z2s n (Int.tdiv (Prod.fst k) 10, (Z4w k) ++ Prod.snd k) /\ Z7g n (Int.toNat (Int.tdiv (Prod.fst k) 10)) (Z2s n (Int.tdiv (Prod.fst
 k) 10, (Z4w k) ++ Prod.snd k))) /\ (decide (0 < Prod.fst k) = false -> True /\ Z6f n (ls (mkS (Prod.snd k))) = Z6f n (ls (mkS (digs (Int.toNat
 n)))))) := by kernel_rfl
theorem Zwp (n : Int) (h0 : 0 <= n) (h : n <= 2147483647)  : LoopSem Tryz.prog (loopAt Tryz.f73 0) (Z7g n) (Zht n) := by
  refine LoopSem.ofHead wide fun k h => ⟨_, _, Zrx n k, ?_⟩
  try delta Z4w
  obtain ⟨i, l⟩ := k
  simp only at *
  obtain ⟨g1, g2, g3⟩ := h
  have g4 : l.length <= 2147483647 := by
    have := congrArg List.length g3
    have := digs_len n.toNat
    simp only [List.length_append] at *
    omega
  simp only [Int.tmod_eq_emod_of_nonneg g1, Int.tdiv_eq_ediv_of_nonneg g1]
  refine ⟨fun g => ?_, fun g => ?_⟩
  . have g : 0 < i := of_decide_eq_true g
    refine ⟨by decide, by rw [rng64]; omega, by rw [rngu8]; omega, by rw [u8_int (by omega) (by omega)], by omega, by decide, by rw [rng64]; omega, by omega, ?_, ?_⟩
    . apply Zoi <;> rfl
    . apply hdI
      . exact ⟨by show 0 <= i / 10; omega, by show i / 10 <= n; omega, by show digs (i / 10).toNat ++ ([_] ++ l) = _; rw [<- g3, digs_int g, List.append_assoc]⟩
      . rfl
  . have g : ¬ 0 < i := of_decide_eq_false g
    refine ⟨trivial, ?_⟩
    have e : i = 0 := by omega
    subst e
    rw [show digs (0 : Int).toNat = [] from digs_zero] at g3
    rw [<- g3]; rfl
theorem Zv1 (n : Int) : aexec Tryz.prog (Tryz.f73.body.getD .skip) (entry [] [li n] 20) [.br [.fin []] [.ghost (.sel [] [0, 3]), .loop
 (Int.toNat n) (Z2s n (n, [])) (Z7g n) [(True, AEx.exit 0, Z6f n (ls (mkS (digs (Int.toNat n)))), [.fin []])]]] (finK Tryz.prog [ResultVar.tmp 2]
 [] (AV.sv (ls (mText n)))) = ((decide (n <= 0) = true -> ObsEq [] [] /\ AV.sv (ls (ByteArray.mk #[(109 : UInt8), (48 : UInt8)])) = AV.sv (ls (mText n))) /\ (decide (n <= 0) = false ->
 Zd1 n (li n) (ls (ByteArray.mk #[])) = Z2s n (n, []) /\ Z7g n (Int.toNat n) (Z2s n (n, [])) /\ LoopSem Tryz.prog (loopAt Tryz.f73 0)
 (Z7g n) (Zht n) /\ (True -> 1 + List.length (digs (Int.toNat n)) <= 9223372036854775807 /\ ObsEq [] [] /\ AV.sv (ls (ByteArray.mk (List.toArray ([(109 : UInt8)] ++
 digs (Int.toNat n))))) = AV.sv (ls (mText n))) /\ True)) := by kernel_rfl
theorem Z6 (n : Int) (h0 : 0 <= n) (h : n <= 2147483647)  : Zb1 n := by
  refine CallOK.ofRun wide (Zv1 n) Tryz.call73 Tryz.func73 rfl rfl rfl ?_
  have g := digs_len n.toNat
  simp only [mText]
  with_reducible repeat' (first | apply And.intro | exact flatI | exact flatS | exact rowLens | (intro; skip) | apply obsN | apply obsC | apply obA | apply obM | apply obB | apply svA | apply tupA | apply lcA | apply lcS | apply svC | apply liC | apply lbC | apply lsC | apply vIc | apply vBc | apply vSc | apply vLc | apply mapC | apply hdI | apply Zoi | apply Zwp | apply Ztk)
  all_goals (try simp only [std, stdM] at *)
  all_goals (try (first | with_reducible rfl | omega | assumption | exact dT ‹_› | exact dF ‹_› | ((first | refine rowGet ?_ | refine getC ?_ rfl); (first | omega | (simp only [std, stdM]; omega) | grind)) | (refine set_row ?_; (simp only [List.length_map, List.length_set, mkTo_len]; omega)) | (refine mkToRow ?_; (first | omega | (simp only [std, stdM]; omega) | grind)) | (refine mkTo_row ?_ rfl; (first | omega | (simp only [std, stdM]; omega) | grind)) | (refine mkTo_step ?_ ?_; (first | omega | (simp only [std, stdM]; omega) | grind); (first | grind [mkS, snocI, snocS, rowSnoc])) | (show (_ : St) = _; rfl) | grind [mkS, snocI, snocS, rowSnoc]))
abbrev Z4x (x : Syntax) (n : Int) : Prop := CallOK Tryz.prog 38 [.arr true 5 (x.items.map syntaxC)] [.one (.ref 0), li n] [.arr true 5 ((seqM mkY cY x.items n).map syntaxC)] (.sv (li (n + sumBy cY x.items)))
def Z82 (x : Syntax) (n : Int) (x0 : SV) (x1 : SV) (x2 : Ob) : St := St.mk (regsOf 49 [(0, AV.sv (SV.one (AC.ref 0))), (1, AV.sv x1), (5, AV.sv x0)]) [x2] 1 
def Zm (x : Syntax) (n : Int) (k : Nat) : St := Z82 x n (li (k : Int)) (li (n + (↑(sumBy cY (List.take k (Syntax.items x))) : Int))) (Ob.arr true 5
 (List.map syntaxC (mkTo mkY cY (Syntax.items x) n k))) 
abbrev Z2z (x : Syntax) (n : Int) : Nat -> St -> Prop := Head (Zm x n) (fun k => k <= List.length (Syntax.items x) /\ List.length (Syntax.items x) <=
 9223372036854775807) fun k => List.length (Syntax.items x) - k 
def Z2g (x : Syntax) (n : Int) (x0 : SV) (x1 : Ob) : St := St.mk (regsOf 49 [(1, AV.sv x0)]) [x1] 1 
def Zb2 (x : Syntax) (n : Int) : List (Prop × AEx × St) := [(True, AEx.exit 0, Z2g x n (li (n + (↑(sumBy cY (Syntax.items x)) : Int))) (Ob.arr true 5
 (List.map syntaxC (seqM mkY cY (Syntax.items x) n))))]

theorem Zh7 {x : Syntax} {n : Int} {k : Nat} {x0 : SV} {x1 : SV} {x2 : Ob} (h0 : x0 = (li (k : Int))) (h1 : x1 = (li (n + (↑(sumBy cY (List.take k (Syntax.items
 x))) : Int)))) (h2 : x2 = (Ob.arr true 5 (List.map syntaxC (mkTo mkY cY (Syntax.items x) n k)))) : Z82 x n x0 x1 x2 = Zm x n k := by
  rw [h0, h1, h2]
  rfl
theorem Zeu {x : Syntax} {n : Int} {x0 y0 : SV} {x1 y1 : Ob} (h0 : x0 = y0) (h1 : x1 = y1) : Z2g x n x0 x1 = Z2g x n y0 y1 := by rw
 [h0, h1]
abbrev a1__markSyntaxS_sLa (x : Syntax) (k : Nat) := (List.getD (Syntax.items x) (Int.toNat (k : Int)) default)
abbrev a3__markSyntaxS_sLa (x : Syntax) (k : Nat) := (↑(sumBy cY (List.take k (Syntax.items x))) : Int)
abbrev a9__markSyntaxS_sLa (x : Syntax) (k : Nat) := (Syntax.scopes (a1__markSyntaxS_sLa x k))
abbrev a11__markSyntaxS_sLa (x : Syntax) (k : Nat) := (Syntax.items (a1__markSyntaxS_sLa x k))
abbrev a2__markSyntaxS_sLa (x : Syntax) (n : Int) (k : Nat) := [cI (n + (a3__markSyntaxS_sLa x k)), cI (n + (a3__markSyntaxS_sLa x k) + 1), cS (mText (n + (a3__markSyntaxS_sLa x k)
 + 1 + 1)), Cell.list (List.map intC (a9__markSyntaxS_sLa x k)), Cell.list (List.map syntaxC (a11__markSyntaxS_sLa x k))]
abbrev a15__markSyntaxS_sLa (x : Syntax) (n : Int) (k : Nat) := (List.map intC (seqM mkI cOne (a9__markSyntaxS_sLa x k) (n + (a3__markSyntaxS_sLa x k) + 1 + 1 + 1)))
abbrev a4__markSyntaxS_sLa (x : Syntax) (n : Int) (k : Nat) := [cI (n + (a3__markSyntaxS_sLa x k)), cI (n + (a3__markSyntaxS_sLa x k) + 1), cS (mText (n + (a3__markSyntaxS_sLa x k)
 + 1 + 1)), Cell.list (a15__markSyntaxS_sLa x n k), Cell.list (List.map syntaxC (a11__markSyntaxS_sLa x k))]
abbrev a5__markSyntaxS_sLa (x : Syntax) (n : Int) (k : Nat) := [cI (n + (a3__markSyntaxS_sLa x k)), cI (n + (a3__markSyntaxS_sLa x k) + 1), cS (Syntax.text (a1__markSyntaxS_sLa x
 k)), Cell.list (List.map intC (a9__markSyntaxS_sLa x k)), Cell.list (List.map syntaxC (a11__markSyntaxS_sLa x k))]
abbrev a6__markSyntaxS_sLa (x : Syntax) (n : Int) (k : Nat) := [cI (n + (a3__markSyntaxS_sLa x k)), cI (Syntax.number (a1__markSyntaxS_sLa x k)), cS (Syntax.text
 (a1__markSyntaxS_sLa x k)), Cell.list (List.map intC (a9__markSyntaxS_sLa x k)), Cell.list (List.map syntaxC (a11__markSyntaxS_sLa x k))]
abbrev a7__markSyntaxS_sLa (x : Syntax) (n : Int) (k : Nat) := (List.map syntaxC (mkTo mkY cY (Syntax.items x) n k))
abbrev a8__markSyntaxS_sLa (x : Syntax) (n : Int) (k : Nat) := (List.set (a7__markSyntaxS_sLa x n k) (Int.toNat (k : Int)) (a2__markSyntaxS_sLa x n k))
abbrev a10__markSyntaxS_sLa (x : Syntax) (n : Int) (k : Nat) := (n + (a3__markSyntaxS_sLa x k) + 1 + 1 + 1 + (↑(List.length (a9__markSyntaxS_sLa x k)) : Int))
abbrev a12__markSyntaxS_sLa (x : Syntax) (n : Int) (k : Nat) := (li (n + (a3__markSyntaxS_sLa x k) + 1 + 1 + 1 + (↑(List.length (a9__markSyntaxS_sLa x k)) : Int) + (↑(sumBy cY
 (a11__markSyntaxS_sLa x k)) : Int)))
abbrev a13__markSyntaxS_sLa (x : Syntax) (n : Int) (k : Nat) := (List.set (a7__markSyntaxS_sLa x n k) (Int.toNat (k : Int)) (a5__markSyntaxS_sLa x n k))
abbrev a14__markSyntaxS_sLa (x : Syntax) (n : Int) (k : Nat) := (List.set (a8__markSyntaxS_sLa x n k) (Int.toNat (k : Int)) (a4__markSyntaxS_sLa x n k))
theorem Zmu (x : Syntax) (n : Int) (k : Nat) : aexec Tryz.prog (loopAt Tryz.f38 0) (Zm x n k) [.br [.cells (syntaxF (a1__markSyntaxS_sLa x
 k)), .take (a6__markSyntaxS_sLa x n k) (a13__markSyntaxS_sLa x n k) 0, .call [Mode.rd] [] (AV.sv (ls (mText (n + (a3__markSyntaxS_sLa x k) + 1 + 1)))), .take
 (a5__markSyntaxS_sLa x n k) (a8__markSyntaxS_sLa x n k) 0, .sub, .subcall (a2__markSyntaxS_sLa x n k) (List.map intC (a9__markSyntaxS_sLa x k)) 1, .call [Mode.own true 1,
 Mode.rd] [Ob.arr true 1 (a15__markSyntaxS_sLa x n k)] (AV.sv (li (a10__markSyntaxS_sLa x n k))), .sub, .subcall (a4__markSyntaxS_sLa x n k) (List.map syntaxC
 (a11__markSyntaxS_sLa x k)) 5, .call [Mode.own true 5, Mode.rd] [Ob.arr true 5 (List.map syntaxC (seqM mkY cY (a11__markSyntaxS_sLa x k) (a10__markSyntaxS_sLa x n k)))] (AV.sv
 (a12__markSyntaxS_sLa x n k)), .ghost (.sel [0] [0, 1, 5]), .goto (List.length (Syntax.items x) - (k + 1)) (Zm x n (k + 1))] [.ghost (.sel [0]
 [1]), .out 0]] (loopK (Z2z x n) (Zb2 x n) (List.length (Syntax.items x) - k)) = (List.length (a7__markSyntaxS_sLa x n k) <= 9223372036854775807 ->
 (decide ((k : Int) < (↑(List.length (a7__markSyntaxS_sLa x n k)) : Int)) = true -> (0 <= (k : Int) /\ Int.toNat (k : Int) < List.length (a7__markSyntaxS_sLa x n k)) /\
 (a7__markSyntaxS_sLa x n k)[Int.toNat (k : Int)]? = some (syntaxF (a1__markSyntaxS_sLa x k)) /\ rng .i64 (n + (a3__markSyntaxS_sLa x k) + 1) /\ (0 <= (k : Int) /\ Int.toNat
 (k : Int) < List.length (List.set (a7__markSyntaxS_sLa x n k) (Int.toNat (k : Int)) (a6__markSyntaxS_sLa x n k))) /\ (List.set (a7__markSyntaxS_sLa x n k) (Int.toNat (k : Int))
 (a6__markSyntaxS_sLa x n k))[Int.toNat (k : Int)]? = some (a6__markSyntaxS_sLa x n k) /\ List.set (List.set (a7__markSyntaxS_sLa x n k) (Int.toNat (k : Int)) (a6__markSyntaxS_sLa
 x n k)) (Int.toNat (k : Int)) (a5__markSyntaxS_sLa x n k) = List.set (a7__markSyntaxS_sLa x n k) (Int.toNat (k : Int)) (a5__markSyntaxS_sLa x n k) /\ rng .i64 (n +
 (a3__markSyntaxS_sLa x k) + 1 + 1) /\ Zb1 (n + (a3__markSyntaxS_sLa x k) + 1 + 1) /\ (0 <= (k : Int) /\ Int.toNat (k : Int) < List.length (a13__markSyntaxS_sLa x n k)) /\
 (a13__markSyntaxS_sLa x n k)[Int.toNat (k : Int)]? = some (a5__markSyntaxS_sLa x n k) /\ List.set (a13__markSyntaxS_sLa x n k) (Int.toNat (k : Int)) (a2__markSyntaxS_sLa x n k) =
 List.set (a7__markSyntaxS_sLa x n k) (Int.toNat (k : Int)) (a2__markSyntaxS_sLa x n k) /\ rng .i64 (n + (a3__markSyntaxS_sLa x k) + 1 + 1 + 1) /\ (0 <= (k : Int) /\ Int.toNat
 (k : Int) < List.length (a8__markSyntaxS_sLa x n k)) /\ Int.toNat (k : Int) < List.length (a8__markSyntaxS_sLa x n k) /\ (a8__markSyntaxS_sLa x n k)[Int.toNat (k : Int)]? = some
 (a2__markSyntaxS_sLa x n k) /\ some (Cell.list (List.map intC (a9__markSyntaxS_sLa x k))) = some (Cell.list (List.map intC (a9__markSyntaxS_sLa x k))) /\ (∀ (x_1 : List Cell), x_1 ∈
 List.map intC (a9__markSyntaxS_sLa x k) -> List.length x_1 = 1) /\ Zet (a9__markSyntaxS_sLa x k) (n + (a3__markSyntaxS_sLa x k) + 1 + 1 + 1) /\ (0 <= (k : Int) /\ Int.toNat
 (k : Int) < List.length (a14__markSyntaxS_sLa x n k)) /\ Int.toNat (k : Int) < List.length (a14__markSyntaxS_sLa x n k) /\ (a14__markSyntaxS_sLa x n k)[Int.toNat (k : Int)]? =
 some (a4__markSyntaxS_sLa x n k) /\ some (Cell.list (List.map syntaxC (a11__markSyntaxS_sLa x k))) = some (Cell.list (List.map syntaxC (a11__markSyntaxS_sLa x k))) /\ (∀ (x_1 : List
 Cell), x_1 ∈ List.map syntaxC (a11__markSyntaxS_sLa x k) -> List.length x_1 = 5) /\ CallOK Tryz.prog 38 [Ob.arr true 5 (List.map syntaxC (a11__markSyntaxS_sLa x k))] [SV.one (AC.ref
 0), li (a10__markSyntaxS_sLa x n k)] [Ob.arr true 5 (List.map syntaxC (seqM mkY cY (a11__markSyntaxS_sLa x k) (a10__markSyntaxS_sLa x n k)))] (AV.sv (a12__markSyntaxS_sLa x n k))
 /\ rng .i64 ((k : Int) + 1) /\ List.length (Syntax.items x) - (k + 1) < List.length (Syntax.items x) - k /\ Z82 x n (li ((k : Int) + 1)) (a12__markSyntaxS_sLa
 x n k) (Ob.arr true 5 (List.set (a14__markSyntaxS_sLa x n k) (Int.toNat (k : Int)) [cI (n + (a3__markSyntaxS_sLa x k)), cI (n + (a3__markSyntaxS_sLa x k) + 1), cS (mText (n +
 (a3__markSyntaxS_sLa x k) + 1 + 1)), Cell.list (a15__markSyntaxS_sLa x n k), Cell.list (List.map syntaxC (seqM mkY cY (a11__markSyntaxS_sLa x k) (a10__markSyntaxS_sLa x n k)))]))
 = Zm x n (k + 1) /\ Z2z x n (List.length (Syntax.items x) - (k + 1)) (Zm x n (k + 1))) /\ (decide ((k : Int) < (↑(List.length
 (a7__markSyntaxS_sLa x n k)) : Int)) = false -> True /\ Z2g x n (li (n + (a3__markSyntaxS_sLa x k))) (Ob.arr true 5 (a7__markSyntaxS_sLa x n k)) =
 Z2g x n (li (n + (↑(sumBy cY (Syntax.items x)) : Int))) (Ob.arr true 5 (List.map syntaxC (seqM mkY cY (Syntax.items x) n))))) := by kernel_rfl
theorem Zpy (x : Syntax) (n : Int) (h0 : 0 <= n) (h : n + (↑(sumBy cY (Syntax.items x)) : Int) <= 2147483647) (ih : ∀ (z : Syntax), z ∈ Syntax.items x -> ∀ (n : Int), 0
 <= n -> n + (↑(sumBy cY (Syntax.items z)) : Int) <= 2147483647 -> Z4x z n)  : LoopSem Tryz.prog (loopAt Tryz.f38 0) (Z2z x n) (Zb2 x n) := by
  refine LoopSem.ofHead wide fun k h => ⟨_, _, Zmu x n k, ?_⟩
  try delta a1__markSyntaxS_sLa a3__markSyntaxS_sLa a9__markSyntaxS_sLa a11__markSyntaxS_sLa a2__markSyntaxS_sLa a15__markSyntaxS_sLa a4__markSyntaxS_sLa a5__markSyntaxS_sLa a6__markSyntaxS_sLa a7__markSyntaxS_sLa a8__markSyntaxS_sLa a10__markSyntaxS_sLa a12__markSyntaxS_sLa a13__markSyntaxS_sLa a14__markSyntaxS_sLa
  have g0 := sumBy_takeLe cY x.items (k + 1)
  with_reducible repeat' (first | apply And.intro | exact flatI | exact flatS | exact rowLens | exact ih | (intro; skip) | apply obsN | apply obsC | apply obA | apply obM | apply obB | apply svA | apply tupA | apply lcA | apply lcS | apply svC | apply liC | apply lbC | apply lsC | apply vIc | apply vBc | apply vSc | apply vLc | apply mapC | apply hdI | apply Zh7 | apply Zeu | apply Z6 | apply Zz | apply ih)
  all_goals (try simp only [std, stdM] at *)
  all_goals (try (first | with_reducible apply Z6 | with_reducible apply Zz | with_reducible apply ih | (simp only [<- List.map_append]; first | with_reducible apply Z6 | with_reducible apply Zz | with_reducible apply ih)))
  all_goals (try (first | with_reducible rfl | omega | assumption | exact dT ‹_› | exact dF ‹_› | ((first | refine rowGet ?_ | refine getC ?_ rfl); (first | omega | (simp only [std, stdM]; omega) | grind)) | (refine set_row ?_; (simp only [List.length_map, List.length_set, mkTo_len]; omega)) | (refine mkToRow ?_; (first | omega | (simp only [std, stdM]; omega) | grind)) | (refine mkTo_row ?_ rfl; (first | omega | (simp only [std, stdM]; omega) | grind)) | (refine mkTo_step ?_ ?_; (first | omega | (simp only [std, stdM]; omega) | grind); (first | exact mkY_C _ _ | grind [sumBy_step, getD_mem', cY_eq, mkY_C, mkTo_all, snocI, snocS, rowSnoc])) | (show (_ : St) = _; rfl) | grind [sumBy_step, getD_mem', cY_eq, mkY_C, mkTo_all, snocI, snocS, rowSnoc]))
theorem Zos (x : Syntax) (n : Int) : aexec Tryz.prog (Tryz.f38.body.getD .skip) (entry [Ob.arr true 5 (List.map syntaxC (Syntax.items x))] [SV.one
 (AC.ref 0), li n] 49) [.ghost (.sel [0] [0, 1, 5]), .loop (List.length (Syntax.items x) - 0) (Zm x n 0) (Z2z x n) [(True, AEx.exit 0,
 Z2g x n (li (n + (↑(sumBy cY (Syntax.items x)) : Int))) (Ob.arr true 5 (List.map syntaxC (seqM mkY cY (Syntax.items x) n))), [.fin []])]] (finK Tryz.prog
 [ResultVar.tmp 4] [Ob.arr true 5 (List.map syntaxC (seqM mkY cY (Syntax.items x) n))] (AV.sv (li (n + (↑(sumBy cY (Syntax.items x)) : Int))))) = (Z82 x n (li 0) (li
 n) (Ob.arr true 5 (List.map syntaxC (Syntax.items x))) = Zm x n 0 /\ Z2z x n (List.length (Syntax.items x) - 0) (Zm x n 0) /\ LoopSem
 Tryz.prog (loopAt Tryz.f38 0) (Z2z x n) (Zb2 x n) /\ (True -> ObsEq [Ob.arr true 5 (List.map syntaxC (seqM mkY cY (Syntax.items x) n))] [Ob.arr true 5
 (List.map syntaxC (seqM mkY cY (Syntax.items x) n))] /\ AV.sv (li (n + (↑(sumBy cY (Syntax.items x)) : Int))) = AV.sv (li (n + (↑(sumBy cY (Syntax.items x)) : Int)))) /\ True) := by
 kernel_rfl
theorem Ztl (x : Syntax) (n : Int) (h0 : 0 <= n) (h : n + sumBy cY x.items <= 2147483647) (ih : ∀ z ∈ x.items, ∀ (n : Int) (h0 : 0 <= n) (h : n + sumBy cY z.items <=
 2147483647), Z4x z n)  : Z4x x n := by
  refine CallOK.ofRun wide (Zos x n) Tryz.call38 Tryz.func38 rfl rfl rfl ?_
  have gl := cY_len x.items
  with_reducible repeat' (first | apply And.intro | exact flatI | exact flatS | exact rowLens | exact ih | (intro; skip) | apply obsN | apply obsC | apply obA | apply obM | apply obB | apply svA | apply tupA | apply lcA | apply lcS | apply svC | apply liC | apply lbC | apply lsC | apply vIc | apply vBc | apply vSc | apply vLc | apply mapC | apply hdI | apply Zh7 | apply Zpy | apply Zeu | apply Z6 | apply Zz)
  all_goals (try simp only [std, stdM] at *)
  all_goals (try (first | with_reducible apply Z6 | with_reducible apply Zz | with_reducible apply ih | (simp only [<- List.map_append]; first | with_reducible apply Z6 | with_reducible apply Zz | with_reducible apply ih)))
  all_goals (try (first | with_reducible rfl | omega | assumption | exact dT ‹_› | exact dF ‹_› | ((first | refine rowGet ?_ | refine getC ?_ rfl); (first | omega | (simp only [std, stdM]; omega) | grind)) | (refine set_row ?_; (simp only [List.length_map, List.length_set, mkTo_len]; omega)) | (refine mkToRow ?_; (first | omega | (simp only [std, stdM]; omega) | grind)) | (refine mkTo_row ?_ rfl; (first | omega | (simp only [std, stdM]; omega) | grind)) | (refine mkTo_step ?_ ?_; (first | omega | (simp only [std, stdM]; omega) | grind); (first | grind [mkTo_all, snocI, snocS, rowSnoc])) | (show (_ : St) = _; rfl) | grind [mkTo_all, snocI, snocS, rowSnoc]))
theorem Z21 (x : Syntax) : ∀ (n : Int) (h0 : 0 <= n) (h : n + sumBy cY x.items <= 2147483647), Z4x x n := Syntax.ind (P := fun x => ∀ (n : Int) (h0 : 0 <= n) (h : n + sumBy cY x.items <= 2147483647), Z4x x n) (fun x ih n h0 h => Ztl x n h0 h ih) x
theorem Z25 (L : List Syntax) (n : Int) (h0 : 0 <= n) (h : n + sumBy cY L <= 2147483647) : Z4x { (default : Syntax) with items := L } n := Z21 { (default : Syntax) with items := L } n h0 h
abbrev Zmv (x : Syntax) (n : Int) : Prop := CallOK Tryz.prog 39 [.arr true 1 (x.scopes.map intC), .arr true 5 (x.items.map syntaxC)] [.agg [vI x.kind, vI x.number, vS x.text, .ref 0, .ref 1], li n] [.arr true 1 ((seqM mkI cOne x.scopes (n)).map intC), .arr true 5 ((seqM mkY cY x.items (n + x.scopes.length)).map syntaxC)] (.sv (li (n + x.scopes.length + sumBy cY x.items)))
abbrev Zal (x : Syntax) (n : Int) := (List.map syntaxC (seqM mkY cY (Syntax.items x) (n + (↑(List.length (Syntax.scopes x)) : Int))))
abbrev Zam (x : Syntax) (n : Int) := [Ob.arr true 1 (List.map intC (seqM mkI cOne (Syntax.scopes x) n)), Ob.arr true 5 (Zal x n)]
abbrev Z4y (x : Syntax) (n : Int) := (li (n + (↑(List.length (Syntax.scopes x)) : Int) + (↑(sumBy cY (Syntax.items x)) : Int)))
theorem Zry (x : Syntax) (n : Int) : aexec Tryz.prog (Tryz.f39.body.getD .skip) (entry [Ob.arr true 1 (List.map intC (Syntax.scopes x)), Ob.arr true
 5 (List.map syntaxC (Syntax.items x))] [SV.agg [vI (Syntax.kind x), vI (Syntax.number x), vS (Syntax.text x), AC.ref 0, AC.ref 1], li n] 14) [.call [Mode.own true 1, Mode.rd]
 [Ob.arr true 1 (List.map intC (seqM mkI cOne (Syntax.scopes x) n))] (AV.sv (li (n + (↑(List.length (Syntax.scopes x)) : Int)))), .call [Mode.own true 5, Mode.rd] [Ob.arr true 5
 (Zal x n)] (AV.sv (Z4y x n)), .fin []] (finK Tryz.prog [ResultVar.tmp 4] (Zam x n) (AV.sv (Z4y x n))) = (Zet
 (Syntax.scopes x) n /\ CallOK Tryz.prog 38 [Ob.arr true 5 (List.map syntaxC (Syntax.items x))] [SV.one (AC.ref 0), li (n + (↑(List.length (Syntax.scopes x)) : Int))] [Ob.arr true 5
 (Zal x n)] (AV.sv (Z4y x n)) /\ ObsEq (Zam x n) (Zam x n) /\ AV.sv (Z4y x n) = AV.sv (Z4y x n)) := by
 kernel_rfl
theorem Zjv (x : Syntax) (n : Int) (h0 : 0 <= n) (h : n + (x.scopes.length + sumBy cY x.items : Nat) <= 2147483647)  : Zmv x n := by
  refine CallOK.ofRun wide (Zry x n) Tryz.call39 Tryz.func39 rfl rfl rfl ?_
  try delta Zal Zam Z4y
  with_reducible repeat' (first | apply And.intro | exact flatI | exact flatS | exact rowLens | (intro; skip) | apply obsN | apply obsC | apply obA | apply obM | apply obB | apply svA | apply tupA | apply lcA | apply lcS | apply svC | apply liC | apply lbC | apply lsC | apply vIc | apply vBc | apply vSc | apply vLc | apply mapC | apply Zz | apply Z21 | apply Z25)
  all_goals (try simp only [std, stdM] at *)
  all_goals (try (first | with_reducible apply Zz | with_reducible apply Z21 | with_reducible apply Z25 | (simp only [<- List.map_append]; first | with_reducible apply Zz | with_reducible apply Z21 | with_reducible apply Z25)))
  all_goals (try (first | with_reducible rfl | omega | assumption | exact dT ‹_› | exact dF ‹_› | ((first | refine rowGet ?_ | refine getC ?_ rfl); (first | omega | (simp only [std, stdM]; omega) | grind)) | (refine set_row ?_; (simp only [List.length_map, List.length_set, mkTo_len]; omega)) | (refine mkToRow ?_; (first | omega | (simp only [std, stdM]; omega) | grind)) | (refine mkTo_row ?_ rfl; (first | omega | (simp only [std, stdM]; omega) | grind)) | (refine mkTo_step ?_ ?_; (first | omega | (simp only [std, stdM]; omega) | grind); (first | grind [snocI, snocS, rowSnoc])) | (show (_ : St) = _; rfl) | grind [snocI, snocS, rowSnoc]))
abbrev Zjw (L : List Binding) (n : Int) : Prop := CallOK Tryz.prog 37 [.arr true 4 (L.map bindingC)] [.one (.ref 0), li n] [.arr true 4 ((seqM mkB cB L n).map bindingC)] (.sv (li (n + sumBy cB L)))
def Z8b (L : List Binding) (n : Int) (x0 : SV) (x1 : SV) (x2 : Ob) : St := St.mk (regsOf 42 [(0, AV.sv (SV.one (AC.ref 0))), (1, AV.sv x1), (5, AV.sv x0)]) [x2] 1 
def Zs (L : List Binding) (n : Int) (k : Nat) : St := Z8b L n (li (k : Int)) (li (n + (↑(sumBy cB (List.take k L)) : Int))) (Ob.arr true 4 (List.map
 bindingC (mkTo mkB cB L n k))) 
abbrev Z3h (L : List Binding) (n : Int) : Nat -> St -> Prop := Head (Zs L n) (fun k => k <= List.length L /\ List.length L <= 9223372036854775807) fun k =>
 List.length L - k 
def Z30 (L : List Binding) (n : Int) (x0 : SV) (x1 : Ob) : St := St.mk (regsOf 42 [(1, AV.sv x0)]) [x1] 1 
def Zc3 (L : List Binding) (n : Int) : List (Prop × AEx × St) := [(True, AEx.exit 0, Z30 L n (li (n + (↑(sumBy cB L) : Int))) (Ob.arr true 4 (List.map
 bindingC (seqM mkB cB L n))))]

theorem Zhz {L : List Binding} {n : Int} {k : Nat} {x0 : SV} {x1 : SV} {x2 : Ob} (h0 : x0 = (li (k : Int))) (h1 : x1 = (li (n + (↑(sumBy cB (List.take k L)) :
 Int)))) (h2 : x2 = (Ob.arr true 4 (List.map bindingC (mkTo mkB cB L n k)))) : Z8b L n x0 x1 x2 = Zs L n k := by
  rw [h0, h1, h2]
  rfl
theorem Zf5 {L : List Binding} {n : Int} {x0 y0 : SV} {x1 y1 : Ob} (h0 : x0 = y0) (h1 : x1 = y1) : Z30 L n x0 x1 = Z30 L n y0 y1 := by
 rw [h0, h1]
abbrev a5__markBindingSLa (L : List Binding) (k : Nat) := (List.getD L (Int.toNat (k : Int)) default)
abbrev a6__markBindingSLa (L : List Binding) (k : Nat) := (Binding.scopes (a5__markBindingSLa L k))
abbrev a7__markBindingSLa (L : List Binding) (n : Int) (k : Nat) := [cS (mText (n + (↑(sumBy cB (List.take k L)) : Int))), Cell.list (List.map intC (a6__markBindingSLa L k)), cI
 (Binding.kind (a5__markBindingSLa L k)), cI (Binding.number (a5__markBindingSLa L k))]
abbrev a1__markBindingSLa (L : List Binding) (n : Int) (k : Nat) := (List.set (List.map bindingC (mkTo mkB cB L n k)) (Int.toNat (k : Int)) (a7__markBindingSLa L n k))
abbrev a8__markBindingSLa (L : List Binding) (n : Int) (k : Nat) := (List.map intC (seqM mkI cOne (a6__markBindingSLa L k) (n + (↑(sumBy cB (List.take k L)) : Int) + 1)))
abbrev a2__markBindingSLa (L : List Binding) (n : Int) (k : Nat) := [cS (mText (n + (↑(sumBy cB (List.take k L)) : Int))), Cell.list (a8__markBindingSLa L n k), cI (n + (↑(sumBy cB
 (List.take k L)) : Int) + 1 + (↑(List.length (a6__markBindingSLa L k)) : Int)), cI (Binding.number (a5__markBindingSLa L k))]
abbrev a3__markBindingSLa (L : List Binding) (n : Int) (k : Nat) := [cS (mText (n + (↑(sumBy cB (List.take k L)) : Int))), Cell.list (a8__markBindingSLa L n k), cI (n + (↑(sumBy cB
 (List.take k L)) : Int) + 1 + (↑(List.length (a6__markBindingSLa L k)) : Int)), cI (n + (↑(sumBy cB (List.take k L)) : Int) + 1 + (↑(List.length (a6__markBindingSLa L k)) : Int) +
 1)]
abbrev a4__markBindingSLa (L : List Binding) (n : Int) (k : Nat) := [cS (mText (n + (↑(sumBy cB (List.take k L)) : Int))), Cell.list (a8__markBindingSLa L n k), cI (Binding.kind
 (a5__markBindingSLa L k)), cI (Binding.number (a5__markBindingSLa L k))]
theorem Zns (L : List Binding) (n : Int) (k : Nat) : aexec Tryz.prog (loopAt Tryz.f37 0) (Zs L n k) [.br [.call [Mode.rd] [] (AV.sv (ls (mText
 (n + (↑(sumBy cB (List.take k L)) : Int))))), .cells (bindingF (a5__markBindingSLa L k)), .sub, .subcall (a7__markBindingSLa L n k) (List.map intC (a6__markBindingSLa L
 k)) 1, .call [Mode.own true 1, Mode.rd] [Ob.arr true 1 (a8__markBindingSLa L n k)] (AV.sv (li (n + (↑(sumBy cB (List.take k L)) : Int) + 1 + (↑(List.length (a6__markBindingSLa
 L k)) : Int)))), .take (a4__markBindingSLa L n k) (List.set (a1__markBindingSLa L n k) (Int.toNat (k : Int)) (a2__markBindingSLa L n k)) 0, .take (a2__markBindingSLa L n k)
 (List.set (a1__markBindingSLa L n k) (Int.toNat (k : Int)) (a3__markBindingSLa L n k)) 0, .ghost (.sel [0] [0, 1, 5]), .goto (List.length L - (k + 1))
 (Zs L n (k + 1))] [.ghost (.sel [0] [1]), .out 0]] (loopK (Z3h L n) (Zc3 L n) (List.length L - k)) = (List.length (List.map
 bindingC (mkTo mkB cB L n k)) <= 9223372036854775807 -> (decide ((k : Int) < (↑(List.length (List.map bindingC (mkTo mkB cB L n k))) : Int)) = true -> Zb1 (n + (↑(sumBy cB
 (List.take k L)) : Int)) /\ (0 <= (k : Int) /\ Int.toNat (k : Int) < List.length (List.map bindingC (mkTo mkB cB L n k))) /\ (List.map bindingC (mkTo mkB cB L n k))[Int.toNat (↑k :
 Int)]? = some (bindingF (a5__markBindingSLa L k)) /\ rng .i64 (n + (↑(sumBy cB (List.take k L)) : Int) + 1) /\ (0 <= (k : Int) /\ Int.toNat (k : Int) < List.length
 (a1__markBindingSLa L n k)) /\ Int.toNat (k : Int) < List.length (a1__markBindingSLa L n k) /\ (a1__markBindingSLa L n k)[Int.toNat (k : Int)]? = some (a7__markBindingSLa L n k) /\
 some (Cell.list (List.map intC (a6__markBindingSLa L k))) = some (Cell.list (List.map intC (a6__markBindingSLa L k))) /\ (∀ (x : List Cell), x ∈ List.map intC (a6__markBindingSLa L
 k) -> List.length x = 1) /\ Zet (a6__markBindingSLa L k) (n + (↑(sumBy cB (List.take k L)) : Int) + 1) /\ (0 <= (k : Int) /\ Int.toNat (k : Int) < List.length (List.set
 (a1__markBindingSLa L n k) (Int.toNat (k : Int)) (a4__markBindingSLa L n k))) /\ (List.set (a1__markBindingSLa L n k) (Int.toNat (k : Int)) (a4__markBindingSLa L n k))[Int.toNat
 (k : Int)]? = some (a4__markBindingSLa L n k) /\ List.set (List.set (a1__markBindingSLa L n k) (Int.toNat (k : Int)) (a4__markBindingSLa L n k)) (Int.toNat (k : Int))
 (a2__markBindingSLa L n k) = List.set (a1__markBindingSLa L n k) (Int.toNat (k : Int)) (a2__markBindingSLa L n k) /\ rng .i64 (n + (↑(sumBy cB (List.take k L)) : Int) + 1 +
 (↑(List.length (a6__markBindingSLa L k)) : Int) + 1) /\ (0 <= (k : Int) /\ Int.toNat (k : Int) < List.length (List.set (a1__markBindingSLa L n k) (Int.toNat (k : Int))
 (a2__markBindingSLa L n k))) /\ (List.set (a1__markBindingSLa L n k) (Int.toNat (k : Int)) (a2__markBindingSLa L n k))[Int.toNat (k : Int)]? = some (a2__markBindingSLa L n k) /\
 List.set (List.set (a1__markBindingSLa L n k) (Int.toNat (k : Int)) (a2__markBindingSLa L n k)) (Int.toNat (k : Int)) (a3__markBindingSLa L n k) = List.set (a1__markBindingSLa L
 n k) (Int.toNat (k : Int)) (a3__markBindingSLa L n k) /\ rng .i64 (n + (↑(sumBy cB (List.take k L)) : Int) + 1 + (↑(List.length (a6__markBindingSLa L k)) : Int) + 1 + 1) /\
 rng .i64 ((k : Int) + 1) /\ List.length L - (k + 1) < List.length L - k /\ Z8b L n (li ((k : Int) + 1)) (li (n + (↑(sumBy cB (List.take k L)) : Int) + 1 +
 (↑(List.length (a6__markBindingSLa L k)) : Int) + 1 + 1)) (Ob.arr true 4 (List.set (a1__markBindingSLa L n k) (Int.toNat (k : Int)) (a3__markBindingSLa L n k))) =
 Zs L n (k + 1) /\ Z3h L n (List.length L - (k + 1)) (Zs L n (k + 1))) /\ (decide ((k : Int) < (↑(List.length (List.map bindingC (mkTo
 mkB cB L n k))) : Int)) = false -> True /\ Z30 L n (li (n + (↑(sumBy cB (List.take k L)) : Int))) (Ob.arr true 4 (List.map bindingC (mkTo mkB cB L n k))) =
 Z30 L n (li (n + (↑(sumBy cB L) : Int))) (Ob.arr true 4 (List.map bindingC (seqM mkB cB L n))))) := by kernel_rfl
theorem Zqh (L : List Binding) (n : Int) (h0 : 0 <= n) (h : n + (↑(sumBy cB L) : Int) <= 2147483647)  : LoopSem Tryz.prog (loopAt Tryz.f37 0) (Z3h L n)
 (Zc3 L n) := by
  refine LoopSem.ofHead wide fun k h => ⟨_, _, Zns L n k, ?_⟩
  try delta a5__markBindingSLa a6__markBindingSLa a7__markBindingSLa a1__markBindingSLa a8__markBindingSLa a2__markBindingSLa a3__markBindingSLa a4__markBindingSLa
  have g0 := sumBy_takeLe cB L (k + 1)
  with_reducible repeat' (first | apply And.intro | exact flatI | exact flatS | exact rowLens | (intro; skip) | apply obsN | apply obsC | apply obA | apply obM | apply obB | apply svA | apply tupA | apply lcA | apply lcS | apply svC | apply liC | apply lbC | apply lsC | apply vIc | apply vBc | apply vSc | apply vLc | apply mapC | apply hdI | apply Zhz | apply Zf5 | apply Z6 | apply Zz)
  all_goals (try simp only [std, stdM] at *)
  all_goals (try (first | with_reducible apply Z6 | with_reducible apply Zz | (simp only [<- List.map_append]; first | with_reducible apply Z6 | with_reducible apply Zz)))
  all_goals (try (first | with_reducible rfl | omega | assumption | exact dT ‹_› | exact dF ‹_› | ((first | refine rowGet ?_ | refine getC ?_ rfl); (first | omega | (simp only [std, stdM]; omega) | grind)) | (refine set_row ?_; (simp only [List.length_map, List.length_set, mkTo_len]; omega)) | (refine mkToRow ?_; (first | omega | (simp only [std, stdM]; omega) | grind)) | (refine mkTo_row ?_ rfl; (first | omega | (simp only [std, stdM]; omega) | grind)) | (refine mkTo_step ?_ ?_; (first | omega | (simp only [std, stdM]; omega) | grind); (first | exact mkB_C _ _ | grind [sumBy_step, getD_mem', cB_eq, mkB_C, mkTo_all, snocI, snocS, rowSnoc])) | (show (_ : St) = _; rfl) | grind [sumBy_step, getD_mem', cB_eq, mkB_C, mkTo_all, snocI, snocS, rowSnoc]))
theorem Zpz (L : List Binding) (n : Int) : aexec Tryz.prog (Tryz.f37.body.getD .skip) (entry [Ob.arr true 4 (List.map bindingC L)] [SV.one (AC.ref
 0), li n] 42) [.ghost (.sel [0] [0, 1, 5]), .loop (List.length L - 0) (Zs L n 0) (Z3h L n) [(True, AEx.exit 0, Z30 L n (li
 (n + (↑(sumBy cB L) : Int))) (Ob.arr true 4 (List.map bindingC (seqM mkB cB L n))), [.fin []])]] (finK Tryz.prog [ResultVar.tmp 4] [Ob.arr true 4 (List.map bindingC (seqM mkB
 cB L n))] (AV.sv (li (n + (↑(sumBy cB L) : Int))))) = (Z8b L n (li 0) (li n) (Ob.arr true 4 (List.map bindingC L)) = Zs L n 0 /\ Z3h L n
 (List.length L - 0) (Zs L n 0) /\ LoopSem Tryz.prog (loopAt Tryz.f37 0) (Z3h L n) (Zc3 L n) /\ (True -> ObsEq [Ob.arr true 4 (List.map
 bindingC (seqM mkB cB L n))] [Ob.arr true 4 (List.map bindingC (seqM mkB cB L n))] /\ AV.sv (li (n + (↑(sumBy cB L) : Int))) = AV.sv (li (n + (↑(sumBy cB L) : Int)))) /\ True) := by
 kernel_rfl
theorem Zfn (L : List Binding) (n : Int) (h0 : 0 <= n) (h : n + sumBy cB L <= 2147483647)  : Zjw L n := by
  refine CallOK.ofRun wide (Zpz L n) Tryz.call37 Tryz.func37 rfl rfl rfl ?_
  have gl := cB_len L
  with_reducible repeat' (first | apply And.intro | exact flatI | exact flatS | exact rowLens | (intro; skip) | apply obsN | apply obsC | apply obA | apply obM | apply obB | apply svA | apply tupA | apply lcA | apply lcS | apply svC | apply liC | apply lbC | apply lsC | apply vIc | apply vBc | apply vSc | apply vLc | apply mapC | apply hdI | apply Zhz | apply Zqh | apply Zf5 | apply Z6 | apply Zz)
  all_goals (try simp only [std, stdM] at *)
  all_goals (try (first | with_reducible apply Z6 | with_reducible apply Zz | (simp only [<- List.map_append]; first | with_reducible apply Z6 | with_reducible apply Zz)))
  all_goals (try (first | with_reducible rfl | omega | assumption | exact dT ‹_› | exact dF ‹_› | ((first | refine rowGet ?_ | refine getC ?_ rfl); (first | omega | (simp only [std, stdM]; omega) | grind)) | (refine set_row ?_; (simp only [List.length_map, List.length_set, mkTo_len]; omega)) | (refine mkToRow ?_; (first | omega | (simp only [std, stdM]; omega) | grind)) | (refine mkTo_row ?_ rfl; (first | omega | (simp only [std, stdM]; omega) | grind)) | (refine mkTo_step ?_ ?_; (first | omega | (simp only [std, stdM]; omega) | grind); (first | grind [mkTo_all, snocI, snocS, rowSnoc])) | (show (_ : St) = _; rfl) | grind [mkTo_all, snocI, snocS, rowSnoc]))
abbrev Zmw (L : List Rules) (n : Int) : Prop := CallOK Tryz.prog 110 [.arr true 3 (L.map rulesC)] [.one (.ref 0), li n] [.arr true 3 ((seqM mkR cR L n).map rulesC)] (.sv (li (n + sumBy cR L)))
def Zan (L : List Rules) (n : Int) (x0 : SV) (x1 : SV) (x2 : Ob) : St := St.mk (regsOf 34 [(0, AV.sv (SV.one (AC.ref 0))), (1, AV.sv x1), (5, AV.sv x0)]) [x2] 1 
def Z1i (L : List Rules) (n : Int) (k : Nat) : St := Zan L n (li (k : Int)) (li (n + (↑(sumBy cR (List.take k L)) : Int))) (Ob.arr true 3 (List.map rulesC
 (mkTo mkR cR L n k))) 
abbrev Z4z (L : List Rules) (n : Int) : Nat -> St -> Prop := Head (Z1i L n) (fun k => k <= List.length L /\ List.length L <= 9223372036854775807) fun k =>
 List.length L - k 
def Z3y (L : List Rules) (n : Int) (x0 : SV) (x1 : Ob) : St := St.mk (regsOf 34 [(1, AV.sv x0)]) [x1] 1 
def Zev (L : List Rules) (n : Int) : List (Prop × AEx × St) := [(True, AEx.exit 0, Z3y L n (li (n + (↑(sumBy cR L) : Int))) (Ob.arr true 3 (List.map rulesC
 (seqM mkR cR L n))))]

theorem Zkw {L : List Rules} {n : Int} {k : Nat} {x0 : SV} {x1 : SV} {x2 : Ob} (h0 : x0 = (li (k : Int))) (h1 : x1 = (li (n + (↑(sumBy cR (List.take k L)) : Int))))
 (h2 : x2 = (Ob.arr true 3 (List.map rulesC (mkTo mkR cR L n k)))) : Zan L n x0 x1 x2 = Z1i L n k := by
  rw [h0, h1, h2]
  rfl
theorem Zi0 {L : List Rules} {n : Int} {x0 y0 : SV} {x1 y1 : Ob} (h0 : x0 = y0) (h1 : x1 = y1) : Z3y L n x0 x1 = Z3y L n y0 y1 := by rw [h0,
 h1]
abbrev a8__markRulesSLa (L : List Rules) (k : Nat) := (Rules.literals (List.getD L k default))
abbrev a5__markRulesSLa (L : List Rules) (n : Int) (k : Nat) := (List.map syntaxC (seqM mkY cY (a8__markRulesSLa L k) (n + (↑(sumBy cR (List.take k L)) : Int))))
abbrev a7__markRulesSLa (L : List Rules) (k : Nat) := (Rules.templates (List.getD L k default))
abbrev a2__markRulesSLa (L : List Rules) (n : Int) (k : Nat) := [Cell.list (a5__markRulesSLa L n k), Cell.list (List.map syntaxC (Rules.patterns (List.getD L k default))),
 Cell.list (List.map syntaxC (a7__markRulesSLa L k))]
abbrev a9__markRulesSLa (L : List Rules) (n : Int) (k : Nat) := (List.set (List.map rulesC (mkTo mkR cR L n k)) (Int.toNat (k : Int)) (a2__markRulesSLa L n k))
abbrev a3__markRulesSLa (L : List Rules) (n : Int) (k : Nat) := (List.map syntaxC (seqM mkY cY (Rules.patterns (List.getD L k default)) (n + (↑(sumBy cR (List.take k L)) : Int) +
 (↑(sumBy cY (a8__markRulesSLa L k)) : Int))))
abbrev a10__markRulesSLa (L : List Rules) (n : Int) (k : Nat) := [Cell.list (a5__markRulesSLa L n k), Cell.list (a3__markRulesSLa L n k), Cell.list (List.map syntaxC
 (a7__markRulesSLa L k))]
abbrev a1__markRulesSLa (L : List Rules) (n : Int) (k : Nat) := (List.set (a9__markRulesSLa L n k) (Int.toNat (k : Int)) (a10__markRulesSLa L n k))
abbrev a4__markRulesSLa (L : List Rules) (n : Int) (k : Nat) := (n + (↑(sumBy cR (List.take k L)) : Int) + (↑(sumBy cY (a8__markRulesSLa L k)) : Int) + (↑(sumBy cY (Rules.patterns
 (List.getD L k default))) : Int))
abbrev a6__markRulesSLa (L : List Rules) (n : Int) (k : Nat) := (li (n + (↑(sumBy cR (List.take k L)) : Int) + (↑(sumBy cY (a8__markRulesSLa L k)) : Int) + (↑(sumBy cY
 (Rules.patterns (List.getD L k default))) : Int) + (↑(sumBy cY (a7__markRulesSLa L k)) : Int)))
theorem Zq0 (L : List Rules) (n : Int) (k : Nat) : aexec Tryz.prog (loopAt Tryz.f110 0) (Z1i L n k) [.br [.sub, .subcall (rulesF (List.getD L k
 default)) (List.map syntaxC (a8__markRulesSLa L k)) 5, .call [Mode.own true 5, Mode.rd] [Ob.arr true 5 (a5__markRulesSLa L n k)] (AV.sv (li (n + (↑(sumBy cR (List.take k L)) :
 Int) + (↑(sumBy cY (a8__markRulesSLa L k)) : Int)))), .sub, .subcall (a2__markRulesSLa L n k) (List.map syntaxC (Rules.patterns (List.getD L k default))) 5, .call
 [Mode.own true 5, Mode.rd] [Ob.arr true 5 (a3__markRulesSLa L n k)] (AV.sv (li (a4__markRulesSLa L n k))), .sub, .subcall (a10__markRulesSLa L n k) (List.map syntaxC
 (a7__markRulesSLa L k)) 5, .call [Mode.own true 5, Mode.rd] [Ob.arr true 5 (List.map syntaxC (seqM mkY cY (a7__markRulesSLa L k) (a4__markRulesSLa L n k)))] (AV.sv
 (a6__markRulesSLa L n k)), .ghost (.sel [0] [0, 1, 5]), .goto (List.length L - (k + 1)) (Z1i L n (k + 1))] [.ghost (.sel [0] [1]), .out 0]]
 (loopK (Z4z L n) (Zev L n) (List.length L - k)) = (List.length (List.map rulesC (mkTo mkR cR L n k)) <= 9223372036854775807 -> (decide ((k : Int) <
 (↑(List.length (List.map rulesC (mkTo mkR cR L n k))) : Int)) = true -> (0 <= (k : Int) /\ Int.toNat (k : Int) < List.length (List.map rulesC (mkTo mkR cR L n k))) /\ Int.toNat (↑k
 : Int) < List.length (List.map rulesC (mkTo mkR cR L n k)) /\ (List.map rulesC (mkTo mkR cR L n k))[Int.toNat (k : Int)]? = some (rulesF (List.getD L k default)) /\ some (Cell.list
 (List.map syntaxC (a8__markRulesSLa L k))) = some (Cell.list (List.map syntaxC (a8__markRulesSLa L k))) /\ (∀ (x : List Cell), x ∈ List.map syntaxC (a8__markRulesSLa L k) ->
 List.length x = 5) /\ CallOK Tryz.prog 38 [Ob.arr true 5 (List.map syntaxC (a8__markRulesSLa L k))] [SV.one (AC.ref 0), li (n + (↑(sumBy cR (List.take k L)) : Int))] [Ob.arr true 5
 (a5__markRulesSLa L n k)] (AV.sv (li (n + (↑(sumBy cR (List.take k L)) : Int) + (↑(sumBy cY (a8__markRulesSLa L k)) : Int)))) /\ (0 <= (k : Int) /\ Int.toNat (k : Int) <
 List.length (a9__markRulesSLa L n k)) /\ Int.toNat (k : Int) < List.length (a9__markRulesSLa L n k) /\ (a9__markRulesSLa L n k)[Int.toNat (k : Int)]? = some (a2__markRulesSLa L n
 k) /\ some (Cell.list (List.map syntaxC (Rules.patterns (List.getD L k default)))) = some (Cell.list (List.map syntaxC (Rules.patterns (List.getD L k default)))) /\ (∀ (x : List
 Cell), x ∈ List.map syntaxC (Rules.patterns (List.getD L k default)) -> List.length x = 5) /\ CallOK Tryz.prog 38 [Ob.arr true 5 (List.map syntaxC (Rules.patterns (List.getD L k
 default)))] [SV.one (AC.ref 0), li (n + (↑(sumBy cR (List.take k L)) : Int) + (↑(sumBy cY (a8__markRulesSLa L k)) : Int))] [Ob.arr true 5 (a3__markRulesSLa L n k)] (AV.sv (li
 (a4__markRulesSLa L n k))) /\ (0 <= (k : Int) /\ Int.toNat (k : Int) < List.length (a1__markRulesSLa L n k)) /\ Int.toNat (k : Int) < List.length (a1__markRulesSLa L n k) /\
 (a1__markRulesSLa L n k)[Int.toNat (k : Int)]? = some (a10__markRulesSLa L n k) /\ some (Cell.list (List.map syntaxC (a7__markRulesSLa L k))) = some (Cell.list (List.map syntaxC
 (a7__markRulesSLa L k))) /\ (∀ (x : List Cell), x ∈ List.map syntaxC (a7__markRulesSLa L k) -> List.length x = 5) /\ CallOK Tryz.prog 38 [Ob.arr true 5 (List.map syntaxC
 (a7__markRulesSLa L k))] [SV.one (AC.ref 0), li (a4__markRulesSLa L n k)] [Ob.arr true 5 (List.map syntaxC (seqM mkY cY (a7__markRulesSLa L k) (a4__markRulesSLa L n k)))] (AV.sv
 (a6__markRulesSLa L n k)) /\ rng .i64 ((k : Int) + 1) /\ List.length L - (k + 1) < List.length L - k /\ Zan L n (li ((k : Int) + 1)) (a6__markRulesSLa L n k)
 (Ob.arr true 3 (List.set (a1__markRulesSLa L n k) (Int.toNat (k : Int)) [Cell.list (a5__markRulesSLa L n k), Cell.list (a3__markRulesSLa L n k), Cell.list (List.map syntaxC (seqM
 mkY cY (a7__markRulesSLa L k) (a4__markRulesSLa L n k)))])) = Z1i L n (k + 1) /\ Z4z L n (List.length L - (k + 1)) (Z1i L n (k + 1))) /\ (decide
 ((k : Int) < (↑(List.length (List.map rulesC (mkTo mkR cR L n k))) : Int)) = false -> True /\ Z3y L n (li (n + (↑(sumBy cR (List.take k L)) : Int))) (Ob.arr true 3
 (List.map rulesC (mkTo mkR cR L n k))) = Z3y L n (li (n + (↑(sumBy cR L) : Int))) (Ob.arr true 3 (List.map rulesC (seqM mkR cR L n))))) := by kernel_rfl
theorem Ztm (L : List Rules) (n : Int) (h0 : 0 <= n) (h : n + (↑(sumBy cR L) : Int) <= 2147483647) (h2 : List.length L <= 2147483647)  : LoopSem Tryz.prog (loopAt
 Tryz.f110 0) (Z4z L n) (Zev L n) := by
  refine LoopSem.ofHead wide fun k h => ⟨_, _, Zq0 L n k, ?_⟩
  try delta a8__markRulesSLa a5__markRulesSLa a7__markRulesSLa a2__markRulesSLa a9__markRulesSLa a3__markRulesSLa a10__markRulesSLa a1__markRulesSLa a4__markRulesSLa a6__markRulesSLa
  have g0 := sumBy_takeLe cR L (k + 1)
  with_reducible repeat' (first | apply And.intro | exact flatI | exact flatS | exact rowLens | (intro; skip) | apply obsN | apply obsC | apply obA | apply obM | apply obB | apply svA | apply tupA | apply lcA | apply lcS | apply svC | apply liC | apply lbC | apply lsC | apply vIc | apply vBc | apply vSc | apply vLc | apply mapC | apply hdI | apply Zkw | apply Zi0 | apply Z21 | apply Z25)
  all_goals (try simp only [std, stdM] at *)
  all_goals (try (first | with_reducible apply Z21 | with_reducible apply Z25 | (simp only [<- List.map_append]; first | with_reducible apply Z21 | with_reducible apply Z25)))
  all_goals (try (first | with_reducible rfl | omega | assumption | exact dT ‹_› | exact dF ‹_› | ((first | refine rowGet ?_ | refine getC ?_ rfl); (first | omega | (simp only [std, stdM]; omega) | grind)) | (refine set_row ?_; (simp only [List.length_map, List.length_set, mkTo_len]; omega)) | (refine mkToRow ?_; (first | omega | (simp only [std, stdM]; omega) | grind)) | (refine mkTo_row ?_ rfl; (first | omega | (simp only [std, stdM]; omega) | grind)) | (refine mkTo_step ?_ ?_; (first | omega | (simp only [std, stdM]; omega) | grind); (first | exact mkR_C _ _ | grind [sumBy_step, getD_mem', cR_eq, mkR_C, mkTo_all, snocI, snocS, rowSnoc])) | (show (_ : St) = _; rfl) | grind [sumBy_step, getD_mem', cR_eq, mkR_C, mkTo_all, snocI, snocS, rowSnoc]))
theorem Zrz (L : List Rules) (n : Int) : aexec Tryz.prog (Tryz.f110.body.getD .skip) (entry [Ob.arr true 3 (List.map rulesC L)] [SV.one (AC.ref 0),
 li n] 34) [.ghost (.sel [0] [0, 1, 5]), .loop (List.length L - 0) (Z1i L n 0) (Z4z L n) [(True, AEx.exit 0, Z3y L n (li (n +
 (↑(sumBy cR L) : Int))) (Ob.arr true 3 (List.map rulesC (seqM mkR cR L n))), [.fin []])]] (finK Tryz.prog [ResultVar.tmp 4] [Ob.arr true 3 (List.map rulesC (seqM mkR cR L n))]
 (AV.sv (li (n + (↑(sumBy cR L) : Int))))) = (Zan L n (li 0) (li n) (Ob.arr true 3 (List.map rulesC L)) = Z1i L n 0 /\ Z4z L n (List.length L -
 0) (Z1i L n 0) /\ LoopSem Tryz.prog (loopAt Tryz.f110 0) (Z4z L n) (Zev L n) /\ (True -> ObsEq [Ob.arr true 3 (List.map rulesC (seqM mkR cR L n))]
 [Ob.arr true 3 (List.map rulesC (seqM mkR cR L n))] /\ AV.sv (li (n + (↑(sumBy cR L) : Int))) = AV.sv (li (n + (↑(sumBy cR L) : Int)))) /\ True) := by kernel_rfl
theorem Zjx (L : List Rules) (n : Int) (h0 : 0 <= n) (h : n + sumBy cR L <= 2147483647) (h2 : L.length <= 2147483647)  : Zmw L n := by
  refine CallOK.ofRun wide (Zrz L n) Tryz.call110 Tryz.func110 rfl rfl rfl ?_
  with_reducible repeat' (first | apply And.intro | exact flatI | exact flatS | exact rowLens | (intro; skip) | apply obsN | apply obsC | apply obA | apply obM | apply obB | apply svA | apply tupA | apply lcA | apply lcS | apply svC | apply liC | apply lbC | apply lsC | apply vIc | apply vBc | apply vSc | apply vLc | apply mapC | apply hdI | apply Zkw | apply Ztm | apply Zi0 | apply Z21 | apply Z25)
  all_goals (try simp only [std, stdM] at *)
  all_goals (try (first | with_reducible apply Z21 | with_reducible apply Z25 | (simp only [<- List.map_append]; first | with_reducible apply Z21 | with_reducible apply Z25)))
  all_goals (try (first | with_reducible rfl | omega | assumption | exact dT ‹_› | exact dF ‹_› | ((first | refine rowGet ?_ | refine getC ?_ rfl); (first | omega | (simp only [std, stdM]; omega) | grind)) | (refine set_row ?_; (simp only [List.length_map, List.length_set, mkTo_len]; omega)) | (refine mkToRow ?_; (first | omega | (simp only [std, stdM]; omega) | grind)) | (refine mkTo_row ?_ rfl; (first | omega | (simp only [std, stdM]; omega) | grind)) | (refine mkTo_step ?_ ?_; (first | omega | (simp only [std, stdM]; omega) | grind); (first | grind [mkTo_all, snocI, snocS, rowSnoc])) | (show (_ : St) = _; rfl) | grind [mkTo_all, snocI, snocS, rowSnoc]))
abbrev Zdb (x : Expander) (n : Int) : Prop := CallOK Tryz.prog 49 [.arr true 4 (x.bindings.map bindingC), .arr true 3 (x.macros.map rulesC)] [.agg [.ref 0, .ref 1, vI x.scope, vI x.vari, vI x.steps], li n] [.arr true 4 ((seqM mkB cB x.bindings (n)).map bindingC), .arr true 3 ((seqM mkR cR x.macros (n + sumBy cB x.bindings)).map rulesC)] (.sv (li (n + sumBy cB x.bindings + sumBy cR x.macros)))
abbrev Z8c (x : Expander) (n : Int) := [Ob.arr true 4 (List.map bindingC (seqM mkB cB (Expander.bindings x) n)), Ob.arr true 3 (List.map rulesC (seqM mkR cR
 (Expander.macros x) (n + (↑(sumBy cB (Expander.bindings x)) : Int))))]
abbrev Z5q (x : Expander) (n : Int) := (li (n + (↑(sumBy cB (Expander.bindings x)) : Int) + (↑(sumBy cR (Expander.macros x)) : Int)))
theorem Zq1 (x : Expander) (n : Int) : aexec Tryz.prog (Tryz.f49.body.getD .skip) (entry [Ob.arr true 4 (List.map bindingC (Expander.bindings x)),
 Ob.arr true 3 (List.map rulesC (Expander.macros x))] [SV.agg [AC.ref 0, AC.ref 1, vI (Expander.scope x), vI (Expander.vari x), vI (Expander.steps x)], li n] 14) [.call
 [Mode.own true 4, Mode.rd] [Ob.arr true 4 (List.map bindingC (seqM mkB cB (Expander.bindings x) n))] (AV.sv (li (n + (↑(sumBy cB (Expander.bindings x)) : Int)))), .call
 [Mode.own true 3, Mode.rd] [Ob.arr true 3 (List.map rulesC (seqM mkR cR (Expander.macros x) (n + (↑(sumBy cB (Expander.bindings x)) : Int))))] (AV.sv (Z5q x n)),
 .fin []] (finK Tryz.prog [ResultVar.tmp 4] (Z8c x n) (AV.sv (Z5q x n))) = (Zjw (Expander.bindings x) n /\ Zmw
 (Expander.macros x) (n + (↑(sumBy cB (Expander.bindings x)) : Int)) /\ ObsEq (Z8c x n) (Z8c x n) /\ AV.sv (Z5q x n) = AV.sv
 (Z5q x n)) := by kernel_rfl
theorem Zfo (x : Expander) (n : Int) (h0 : 0 <= n) (h : n + (sumBy cB x.bindings + sumBy cR x.macros : Nat) <= 2147483647) (h21 : x.macros.length <= 2147483647)  :
 Zdb x n := by
  refine CallOK.ofRun wide (Zq1 x n) Tryz.call49 Tryz.func49 rfl rfl rfl ?_
  try delta Z8c Z5q
  with_reducible repeat' (first | apply And.intro | exact flatI | exact flatS | exact rowLens | (intro; skip) | apply obsN | apply obsC | apply obA | apply obM | apply obB | apply svA | apply tupA | apply lcA | apply lcS | apply svC | apply liC | apply lbC | apply lsC | apply vIc | apply vBc | apply vSc | apply vLc | apply mapC | apply Zfn | apply Zjx)
  all_goals (try simp only [std, stdM] at *)
  all_goals (try (first | with_reducible apply Zfn | with_reducible apply Zjx | (simp only [<- List.map_append]; first | with_reducible apply Zfn | with_reducible apply Zjx)))
  all_goals (try (first | with_reducible rfl | omega | assumption | exact dT ‹_› | exact dF ‹_› | ((first | refine rowGet ?_ | refine getC ?_ rfl); (first | omega | (simp only [std, stdM]; omega) | grind)) | (refine set_row ?_; (simp only [List.length_map, List.length_set, mkTo_len]; omega)) | (refine mkToRow ?_; (first | omega | (simp only [std, stdM]; omega) | grind)) | (refine mkTo_row ?_ rfl; (first | omega | (simp only [std, stdM]; omega) | grind)) | (refine mkTo_step ?_ ?_; (first | omega | (simp only [std, stdM]; omega) | grind); (first | grind [snocI, snocS, rowSnoc])) | (show (_ : St) = _; rfl) | grind [snocI, snocS, rowSnoc]))
end Go.Proofs.YtegbadciefljcaaGreat
end
section
namespace Go.Proofs.YtegbadciefljcaaGreat
open Go Go.Proofs.YtegbadciefljcaaGreat.Ab
set_option linter.unusedVariables false
set_option linter.unusedSimpArgs false
set_option maxHeartbeats 4000000
abbrev Zjy (L : List Int) (n : Int) : Prop := CallOK Tryz.prog 78 [] [ll (L.map intC), li n] [] (.sv (li (n + L.length)))
def Zd2 (L : List Int) (n : Int) (x0 : SV) (x1 : SV) : St := St.mk (regsOf 21 [(0, AV.sv (ll (List.map intC L))), (1, AV.sv x1), (5, AV.sv x0)]) [] 0 
def Z2t (L : List Int) (n : Int) (k : Nat) : St := Zd2 L n (li (k : Int)) (li (n + (k : Int))) 
abbrev Z7h (L : List Int) (n : Int) : Nat -> St -> Prop := Head (Z2t L n) (fun k => k <= List.length L /\ List.length L <= 9223372036854775807) fun k => List.length L -
 k 
def Z6g (L : List Int) (n : Int) (x0 : SV) : St := St.mk (regsOf 21 [(1, AV.sv x0)]) [] 0 
def Z6h (L : List Int) (n : Int) (x0 : SV) : St := St.mk (regsOf 21 [(4, AV.sv x0)]) [] 0 
def Zhu (L : List Int) (n : Int) : List (Prop × AEx × St) := [(True, AEx.exit 0, Z6g L n (li (n + (↑(List.length L) : Int)))), (False, AEx.ret, Z6h
 L n (li (-1 : Int)))]

theorem Zoj {L : List Int} {n : Int} {k : Nat} {x0 : SV} {x1 : SV} (h0 : x0 = (li (k : Int))) (h1 : x1 = (li (n + (k : Int)))) : Zd2 L n x0 x1 = Z2t
 L n k := by
  rw [h0, h1]
  rfl
theorem Zkx {L : List Int} {n : Int} {x0 y0 : SV} (h0 : x0 = y0) : Z6g L n x0 = Z6g L n y0 := by rw [h0]
theorem Zky {L : List Int} {n : Int} {x0 y0 : SV} (h0 : x0 = y0) : Z6h L n x0 = Z6h L n y0 := by rw [h0]
theorem Zs0 (L : List Int) (n : Int) (k : Nat) : aexec Tryz.prog (loopAt Tryz.f78 0) (Z2t L n k) [.br [.cells (intC (List.getD L k default)), .br
 [.ghost (.sel [] [4]), .out 1] [.ghost (.sel [] [0, 1, 5]), .goto (List.length L - (k + 1)) (Z2t L n (k + 1))]] [.ghost (.sel [] [1]),
 .out 0]] (loopK (Z7h L n) (Zhu L n) (List.length L - k)) = (List.length (List.map intC L) <= 9223372036854775807 -> (decide ((k : Int) < (↑(List.length
 (List.map intC L)) : Int)) = true -> (0 <= (k : Int) /\ (List.map intC L)[Int.toNat (k : Int)]? = some [cI (List.getD L k 0)]) /\ (decide (List.getD L k (0 : Int) ≠ n + (k : Int))
 = true -> False /\ Z6h L n (li (-1 : Int)) = Z6h L n (li (-1 : Int))) /\ (decide (List.getD L k (0 : Int) ≠ n + (k : Int)) = false -> rng .i64 (n + (↑k :
 Int) + 1) /\ rng .i64 ((k : Int) + 1) /\ List.length L - (k + 1) < List.length L - k /\ Zd2 L n (li ((k : Int) + 1)) (li (n + (k : Int) + 1)) = Z2t L n
 (k + 1) /\ Z7h L n (List.length L - (k + 1)) (Z2t L n (k + 1)))) /\ (decide ((k : Int) < (↑(List.length (List.map intC L)) : Int)) = false -> True /\
 Z6g L n (li (n + (k : Int))) = Z6g L n (li (n + (↑(List.length L) : Int))))) := by kernel_rfl
theorem Zwq (L : List Int) (n : Int) (h0 : 0 <= n) (h : n + (↑(List.length L) : Int) <= 2147483647) (hm : seqM mkI cOne L n = L)  : LoopSem Tryz.prog (loopAt Tryz.f78 0)
 (Z7h L n) (Zhu L n) := by
  refine LoopSem.ofHead wide fun k h => ⟨_, _, Zs0 L n k, ?_⟩
  with_reducible repeat' (first | apply And.intro | exact flatI | exact flatS | exact rowLens | (intro; skip) | apply obsN | apply obsC | apply obA | apply obM | apply obB | apply svA | apply tupA | apply lcA | apply lcS | apply svC | apply liC | apply lbC | apply lsC | apply vIc | apply vBc | apply vSc | apply vLc | apply mapC | apply hdI | apply Zoj | apply Zkx | apply Zky)
  all_goals (try simp only [std, stdM] at *)
  all_goals (try (first | with_reducible rfl | omega | assumption | exact dT ‹_› | exact dF ‹_› | ((first | refine rowGet ?_ | refine getC ?_ rfl); (first | omega | (simp only [std, stdM]; omega) | grind)) | (refine set_row ?_; (simp only [List.length_map, List.length_set, mkTo_len]; omega)) | (refine mkToRow ?_; (first | omega | (simp only [std, stdM]; omega) | grind)) | (refine mkTo_row ?_ rfl; (first | omega | (simp only [std, stdM]; omega) | grind)) | (refine mkTo_step ?_ ?_; (first | omega | (simp only [std, stdM]; omega) | grind); (first | grind [seqI_get hm, snocI, snocS, rowSnoc])) | (show (_ : St) = _; rfl) | grind [seqI_get hm, snocI, snocS, rowSnoc]))
theorem Zv2 (L : List Int) (n : Int) : aexec Tryz.prog (Tryz.f78.body.getD .skip) (entry [] [ll (List.map intC L), li n] 21) [.ghost (.sel []
 [0, 1, 5]), .loop (List.length L - 0) (Z2t L n 0) (Z7h L n) [(True, AEx.exit 0, Z6g L n (li (n + (↑(List.length L) : Int))), [.fin []]),
 (False, AEx.ret, Z6h L n (li (-1 : Int)), [.fin []])]] (finK Tryz.prog [ResultVar.tmp 4] [] (AV.sv (li (n + (↑(List.length L) : Int))))) = (Zd2 L n (li 0)
 (li n) = Z2t L n 0 /\ Z7h L n (List.length L - 0) (Z2t L n 0) /\ LoopSem Tryz.prog (loopAt Tryz.f78 0) (Z7h L n) (Zhu L n) /\ (True
 -> ObsEq [] [] /\ AV.sv (li (n + (↑(List.length L) : Int))) = AV.sv (li (n + (↑(List.length L) : Int)))) /\ (False -> ObsEq [] [] /\ AV.sv (li (-1 : Int)) = AV.sv (li (n +
 (↑(List.length L) : Int)))) /\ True) := by kernel_rfl
theorem Z2u (L : List Int) (n : Int) (h0 : 0 <= n) (h : n + L.length <= 2147483647) (hm : seqM mkI cOne L n = L)  : Zjy L n := by
  refine CallOK.ofRun wide (Zv2 L n) Tryz.call78 Tryz.func78 rfl rfl rfl ?_
  with_reducible repeat' (first | apply And.intro | exact flatI | exact flatS | exact rowLens | (intro; skip) | apply obsN | apply obsC | apply obA | apply obM | apply obB | apply svA | apply tupA | apply lcA | apply lcS | apply svC | apply liC | apply lbC | apply lsC | apply vIc | apply vBc | apply vSc | apply vLc | apply mapC | apply hdI | apply Zoj | apply Zwq | apply Zkx | apply Zky)
  all_goals (try simp only [std, stdM] at *)
  all_goals (try (first | with_reducible rfl | omega | assumption | exact dT ‹_› | exact dF ‹_› | ((first | refine rowGet ?_ | refine getC ?_ rfl); (first | omega | (simp only [std, stdM]; omega) | grind)) | (refine set_row ?_; (simp only [List.length_map, List.length_set, mkTo_len]; omega)) | (refine mkToRow ?_; (first | omega | (simp only [std, stdM]; omega) | grind)) | (refine mkTo_row ?_ rfl; (first | omega | (simp only [std, stdM]; omega) | grind)) | (refine mkTo_step ?_ ?_; (first | omega | (simp only [std, stdM]; omega) | grind); (first | grind [snocI, snocS, rowSnoc])) | (show (_ : St) = _; rfl) | grind [snocI, snocS, rowSnoc]))
abbrev Z50 (x : Syntax) (n : Int) : Prop := CallOK Tryz.prog 103 [] [ll (x.items.map syntaxC), li n] [] (.sv (li (n + sumBy cY x.items)))
def Z83 (x : Syntax) (n : Int) (x0 : SV) (x1 : SV) : St := St.mk (regsOf 59 [(0, AV.sv (ll (List.map syntaxC (Syntax.items x)))), (1, AV.sv x1), (5, AV.sv x0)]) [] 0
def Zn (x : Syntax) (n : Int) (k : Nat) : St := Z83 x n (li (k : Int)) (li (n + (↑(sumBy cY (List.take k (Syntax.items x))) : Int))) 
abbrev Z31 (x : Syntax) (n : Int) : Nat -> St -> Prop := Head (Zn x n) (fun k => k <= List.length (Syntax.items x) /\ List.length (Syntax.items x) <=
 9223372036854775807) fun k => List.length (Syntax.items x) - k 
def Z2h (x : Syntax) (n : Int) (x0 : SV) : St := St.mk (regsOf 59 [(1, AV.sv x0)]) [] 0 
def Z1 (x : Syntax) (n : Int) (x0 : SV) : St := St.mk (regsOf 59 [(4, AV.sv x0)]) [] 0 
def Zb3 (x : Syntax) (n : Int) : List (Prop × AEx × St) := [(True, AEx.exit 0, Z2h x n (li (n + (↑(sumBy cY (Syntax.items x)) : Int)))), (False,
 AEx.ret, Z1 x n (li (-1 : Int)))]

theorem Zh8 {x : Syntax} {n : Int} {k : Nat} {x0 : SV} {x1 : SV} (h0 : x0 = (li (k : Int))) (h1 : x1 = (li (n + (↑(sumBy cY (List.take k (Syntax.items x))) :
 Int)))) : Z83 x n x0 x1 = Zn x n k := by
  rw [h0, h1]
  rfl
theorem Zew {x : Syntax} {n : Int} {x0 y0 : SV} (h0 : x0 = y0) : Z2h x n x0 = Z2h x n y0 := by rw [h0]
theorem Zex {x : Syntax} {n : Int} {x0 y0 : SV} (h0 : x0 = y0) : Z1 x n x0 = Z1 x n y0 := by rw [h0]
abbrev a1__heldSyntaxS_sLa (x : Syntax) (k : Nat) := (↑(sumBy cY (List.take k (Syntax.items x))) : Int)
abbrev a2__heldSyntaxS_sLa (x : Syntax) (k : Nat) := (0 <= (k : Int) /\ (List.map syntaxC (Syntax.items x))[Int.toNat (k : Int)]? = some (syntaxF (List.getD (Syntax.items x) k
 default)))
abbrev a3__heldSyntaxS_sLa (x : Syntax) (k : Nat) := (↑(List.length (Syntax.scopes (List.getD (Syntax.items x) k default))) : Int)
abbrev a4__heldSyntaxS_sLa (x : Syntax) (n : Int) (k : Nat) := (li (n + (a1__heldSyntaxS_sLa x k) + 1 + 1 + 1 + (a3__heldSyntaxS_sLa x k) + (↑(sumBy cY (Syntax.items (List.getD
 (Syntax.items x) k default))) : Int)))
theorem Zmx (x : Syntax) (n : Int) (k : Nat) : aexec Tryz.prog (loopAt Tryz.f103 0) (Zn x n k) [.br [.cells (syntaxF (List.getD
 (Syntax.items x) k default)), .br [.ghost (.sel [] [4]), .out 1] [.cells (syntaxF (List.getD (Syntax.items x) k default)), .br [.ghost (.sel [] [4]),
 .out 1] [.draw [], .cells (syntaxF (List.getD (Syntax.items x) k default)), .call [Mode.rd] [] (AV.sv (ls (mText (n + (a1__heldSyntaxS_sLa x k) + 1 + 1)))), .br
 [.ghost (.sel [] [4]), .out 1] [.cells (syntaxF (List.getD (Syntax.items x) k default)), .call [Mode.rd, Mode.rd] [] (AV.sv (li (n + (a1__heldSyntaxS_sLa x k) + 1
 + 1 + 1 + (a3__heldSyntaxS_sLa x k)))), .br [.ghost (.sel [] [4]), .out 1] [.cells (syntaxF (List.getD (Syntax.items x) k default)), .call [Mode.rd, Mode.rd]
 [] (AV.sv (a4__heldSyntaxS_sLa x n k)), .br [.ghost (.sel [] [4]), .out 1] [.ghost (.sel [] [0, 1, 5]), .goto (List.length (Syntax.items x) - (k + 1))
 (Zn x n (k + 1))]]]]]] [.ghost (.sel [] [1]), .out 0]] (loopK (Z31 x n) (Zb3 x n) (List.length (Syntax.items x) - k)) =
 (List.length (List.map syntaxC (Syntax.items x)) <= 9223372036854775807 -> (decide ((k : Int) < (↑(List.length (List.map syntaxC (Syntax.items x))) : Int)) = true ->
 (a2__heldSyntaxS_sLa x k) /\ (decide (Syntax.kind (List.getD (Syntax.items x) k default) ≠ n + (a1__heldSyntaxS_sLa x k)) = true -> False /\ Z1 x n (li (-1 : Int)) =
 Z1 x n (li (-1 : Int))) /\ (decide (Syntax.kind (List.getD (Syntax.items x) k default) ≠ n + (a1__heldSyntaxS_sLa x k)) = false -> rng .i64 (n +
 (a1__heldSyntaxS_sLa x k) + 1) /\ (a2__heldSyntaxS_sLa x k) /\ (decide (Syntax.number (List.getD (Syntax.items x) k default) ≠ n + (a1__heldSyntaxS_sLa x k) + 1) = true -> False /\
 Z1 x n (li (-1 : Int)) = Z1 x n (li (-1 : Int))) /\ (decide (Syntax.number (List.getD (Syntax.items x) k default) ≠ n + (a1__heldSyntaxS_sLa x k)
 + 1) = false -> rng .i64 (n + (a1__heldSyntaxS_sLa x k) + 1 + 1) /\ (a2__heldSyntaxS_sLa x k) /\ Zb1 (n + (a1__heldSyntaxS_sLa x k) + 1 + 1) /\ (decide (Array.toList
 (ByteArray.data (Syntax.text (List.getD (Syntax.items x) k default))) ≠ Array.toList (ByteArray.data (mText (n + (a1__heldSyntaxS_sLa x k) + 1 + 1)))) = true -> False /\
 Z1 x n (li (-1 : Int)) = Z1 x n (li (-1 : Int))) /\ (decide (Array.toList (ByteArray.data (Syntax.text (List.getD (Syntax.items x) k default))) ≠
 Array.toList (ByteArray.data (mText (n + (a1__heldSyntaxS_sLa x k) + 1 + 1)))) = false -> rng .i64 (n + (a1__heldSyntaxS_sLa x k) + 1 + 1 + 1) /\ (a2__heldSyntaxS_sLa x k) /\
 Zjy (Syntax.scopes (List.getD (Syntax.items x) k default)) (n + (a1__heldSyntaxS_sLa x k) + 1 + 1 + 1) /\ (decide (n + (a1__heldSyntaxS_sLa x k) + 1 + 1 + 1 +
 (a3__heldSyntaxS_sLa x k) < 0) = true -> False /\ Z1 x n (li (-1 : Int)) = Z1 x n (li (-1 : Int))) /\ (decide (n + (a1__heldSyntaxS_sLa x k) + 1 + 1
 + 1 + (a3__heldSyntaxS_sLa x k) < 0) = false -> (a2__heldSyntaxS_sLa x k) /\ CallOK Tryz.prog 103 [] [ll (List.map syntaxC (Syntax.items (List.getD (Syntax.items x) k default))), li
 (n + (a1__heldSyntaxS_sLa x k) + 1 + 1 + 1 + (a3__heldSyntaxS_sLa x k))] [] (AV.sv (a4__heldSyntaxS_sLa x n k)) /\ (decide (n + (a1__heldSyntaxS_sLa x k) + 1 + 1 + 1 +
 (a3__heldSyntaxS_sLa x k) + (↑(sumBy cY (Syntax.items (List.getD (Syntax.items x) k default))) : Int) < 0) = true -> False /\ Z1 x n (li (-1 : Int)) =
 Z1 x n (li (-1 : Int))) /\ (decide (n + (a1__heldSyntaxS_sLa x k) + 1 + 1 + 1 + (a3__heldSyntaxS_sLa x k) + (↑(sumBy cY (Syntax.items (List.getD (Syntax.items x) k
 default))) : Int) < 0) = false -> rng .i64 ((k : Int) + 1) /\ List.length (Syntax.items x) - (k + 1) < List.length (Syntax.items x) - k /\ Z83 x n (li ((↑k :
 Int) + 1)) (a4__heldSyntaxS_sLa x n k) = Zn x n (k + 1) /\ Z31 x n (List.length (Syntax.items x) - (k + 1)) (Zn x n (k + 1)))))))) /\
 (decide ((k : Int) < (↑(List.length (List.map syntaxC (Syntax.items x))) : Int)) = false -> True /\ Z2h x n (li (n + (a1__heldSyntaxS_sLa x k))) =
 Z2h x n (li (n + (↑(sumBy cY (Syntax.items x)) : Int))))) := by kernel_rfl
theorem Zq2 (x : Syntax) (n : Int) (h0 : 0 <= n) (h : n + (↑(sumBy cY (Syntax.items x)) : Int) <= 2147483647) (hm : seqM mkY cY (Syntax.items x) n = Syntax.items x)
 (ih : ∀ (z : Syntax), z ∈ Syntax.items x -> ∀ (n : Int), 0 <= n -> n + (↑(sumBy cY (Syntax.items z)) : Int) <= 2147483647 -> seqM mkY cY (Syntax.items z) n = Syntax.items z ->
 Z50 z n)  : LoopSem Tryz.prog (loopAt Tryz.f103 0) (Z31 x n) (Zb3 x n) := by
  refine LoopSem.ofHead wide fun k h => ⟨_, _, Zmx x n k, ?_⟩
  try delta a1__heldSyntaxS_sLa a2__heldSyntaxS_sLa a3__heldSyntaxS_sLa a4__heldSyntaxS_sLa
  have g0 := sumBy_takeLe cY x.items (k + 1)
  have g1 := fun hk : k < x.items.length => mkY_fix (seqM_get hm hk)
  with_reducible repeat' (first | apply And.intro | exact flatI | exact flatS | exact rowLens | exact ih | (intro; skip) | apply obsN | apply obsC | apply obA | apply obM | apply obB | apply svA | apply tupA | apply lcA | apply lcS | apply svC | apply liC | apply lbC | apply lsC | apply vIc | apply vBc | apply vSc | apply vLc | apply mapC | apply hdI | apply Zh8 | apply Zew | apply Zex | apply Z6 | apply Z2u | apply ih)
  all_goals (try simp only [std, stdM] at *)
  all_goals (try (first | with_reducible apply Z6 | with_reducible apply Z2u | with_reducible apply ih | (simp only [<- List.map_append]; first | with_reducible apply Z6 | with_reducible apply Z2u | with_reducible apply ih)))
  all_goals (try (first | with_reducible rfl | omega | assumption | exact dT ‹_› | exact dF ‹_› | ((first | refine rowGet ?_ | refine getC ?_ rfl); (first | omega | (simp only [std, stdM]; omega) | grind)) | (refine set_row ?_; (simp only [List.length_map, List.length_set, mkTo_len]; omega)) | (refine mkToRow ?_; (first | omega | (simp only [std, stdM]; omega) | grind)) | (refine mkTo_row ?_ rfl; (first | omega | (simp only [std, stdM]; omega) | grind)) | (refine mkTo_step ?_ ?_; (first | omega | (simp only [std, stdM]; omega) | grind); (first | grind [sumBy_step, getD_mem', cY_eq, snocI, snocS, rowSnoc])) | (show (_ : St) = _; rfl) | grind [sumBy_step, getD_mem', cY_eq, snocI, snocS, rowSnoc]))
theorem Zot (x : Syntax) (n : Int) : aexec Tryz.prog (Tryz.f103.body.getD .skip) (entry [] [ll (List.map syntaxC (Syntax.items x)), li n] 59)
 [.ghost (.sel [] [0, 1, 5]), .loop (List.length (Syntax.items x) - 0) (Zn x n 0) (Z31 x n) [(True, AEx.exit 0, Z2h x n
 (li (n + (↑(sumBy cY (Syntax.items x)) : Int))), [.fin []]), (False, AEx.ret, Z1 x n (li (-1 : Int)), [.fin []])]] (finK Tryz.prog [ResultVar.tmp 4] []
 (AV.sv (li (n + (↑(sumBy cY (Syntax.items x)) : Int))))) = (Z83 x n (li 0) (li n) = Zn x n 0 /\ Z31 x n (List.length (Syntax.items x)
 - 0) (Zn x n 0) /\ LoopSem Tryz.prog (loopAt Tryz.f103 0) (Z31 x n) (Zb3 x n) /\ (True -> ObsEq [] [] /\ AV.sv (li (n + (↑(sumBy cY
 (Syntax.items x)) : Int))) = AV.sv (li (n + (↑(sumBy cY (Syntax.items x)) : Int)))) /\ (False -> ObsEq [] [] /\ AV.sv (li (-1 : Int)) = AV.sv (li (n + (↑(sumBy cY (Syntax.items x)) :
 Int)))) /\ True) := by kernel_rfl
theorem Ztn (x : Syntax) (n : Int) (h0 : 0 <= n) (h : n + sumBy cY x.items <= 2147483647) (hm : seqM mkY cY x.items n = x.items) (ih : ∀ z ∈ x.items, ∀ (n : Int) (h0 : 0
 <= n) (h : n + sumBy cY z.items <= 2147483647) (hm : seqM mkY cY z.items n = z.items), Z50 z n)  : Z50 x n := by
  refine CallOK.ofRun wide (Zot x n) Tryz.call103 Tryz.func103 rfl rfl rfl ?_
  have gl := cY_len x.items
  with_reducible repeat' (first | apply And.intro | exact flatI | exact flatS | exact rowLens | exact ih | (intro; skip) | apply obsN | apply obsC | apply obA | apply obM | apply obB | apply svA | apply tupA | apply lcA | apply lcS | apply svC | apply liC | apply lbC | apply lsC | apply vIc | apply vBc | apply vSc | apply vLc | apply mapC | apply hdI | apply Zh8 | apply Zq2 | apply Zew | apply Zex | apply Z6 | apply Z2u)
  all_goals (try simp only [std, stdM] at *)
  all_goals (try (first | with_reducible apply Z6 | with_reducible apply Z2u | with_reducible apply ih | (simp only [<- List.map_append]; first | with_reducible apply Z6 | with_reducible apply Z2u | with_reducible apply ih)))
  all_goals (try (first | with_reducible rfl | omega | assumption | exact dT ‹_› | exact dF ‹_› | ((first | refine rowGet ?_ | refine getC ?_ rfl); (first | omega | (simp only [std, stdM]; omega) | grind)) | (refine set_row ?_; (simp only [List.length_map, List.length_set, mkTo_len]; omega)) | (refine mkToRow ?_; (first | omega | (simp only [std, stdM]; omega) | grind)) | (refine mkTo_row ?_ rfl; (first | omega | (simp only [std, stdM]; omega) | grind)) | (refine mkTo_step ?_ ?_; (first | omega | (simp only [std, stdM]; omega) | grind); (first | grind [mkTo_all, snocI, snocS, rowSnoc])) | (show (_ : St) = _; rfl) | grind [mkTo_all, snocI, snocS, rowSnoc]))
theorem Z5o (x : Syntax) : ∀ (n : Int) (h0 : 0 <= n) (h : n + sumBy cY x.items <= 2147483647) (hm : seqM mkY cY x.items n = x.items), Z50 x n := Syntax.ind (P := fun x => ∀ (n : Int) (h0 : 0 <= n) (h : n + sumBy cY x.items <= 2147483647) (hm : seqM mkY cY x.items n = x.items), Z50 x n) (fun x ih n h0 h hm => Ztn x n h0 h hm ih) x
theorem Z6i (L : List Syntax) (n : Int) (h0 : 0 <= n) (h : n + sumBy cY L <= 2147483647) (hm : seqM mkY cY L n = L) : Z50 { (default : Syntax) with items := L } n := Z5o { (default : Syntax) with items := L } n h0 h hm
abbrev Zjz (L : List Binding) (n : Int) : Prop := CallOK Tryz.prog 111 [] [ll (L.map bindingC), li n] [] (.sv (li (n + sumBy cB L)))
def Z8d (L : List Binding) (n : Int) (x0 : SV) (x1 : SV) : St := St.mk (regsOf 50 [(0, AV.sv (ll (List.map bindingC L))), (1, AV.sv x1), (5, AV.sv x0)]) [] 0 
def Zt (L : List Binding) (n : Int) (k : Nat) : St := Z8d L n (li (k : Int)) (li (n + (↑(sumBy cB (List.take k L)) : Int))) 
abbrev Z3i (L : List Binding) (n : Int) : Nat -> St -> Prop := Head (Zt L n) (fun k => k <= List.length L /\ List.length L <= 9223372036854775807) fun k =>
 List.length L - k 
def Z32 (L : List Binding) (n : Int) (x0 : SV) : St := St.mk (regsOf 50 [(1, AV.sv x0)]) [] 0 
def Z7 (L : List Binding) (n : Int) (x0 : SV) : St := St.mk (regsOf 50 [(4, AV.sv x0)]) [] 0 
def Zc4 (L : List Binding) (n : Int) : List (Prop × AEx × St) := [(True, AEx.exit 0, Z32 L n (li (n + (↑(sumBy cB L) : Int)))), (False, AEx.ret,
 Z7 L n (li (-1 : Int)))]

theorem Zi1 {L : List Binding} {n : Int} {k : Nat} {x0 : SV} {x1 : SV} (h0 : x0 = (li (k : Int))) (h1 : x1 = (li (n + (↑(sumBy cB (List.take k L)) : Int)))) :
 Z8d L n x0 x1 = Zt L n k := by
  rw [h0, h1]
  rfl
theorem Zf6 {L : List Binding} {n : Int} {x0 y0 : SV} (h0 : x0 = y0) : Z32 L n x0 = Z32 L n y0 := by rw [h0]
theorem Zf7 {L : List Binding} {n : Int} {x0 y0 : SV} (h0 : x0 = y0) : Z7 L n x0 = Z7 L n y0 := by rw [h0]
abbrev a1__heldBindingSLa (L : List Binding) (k : Nat) := (↑(List.length (Binding.scopes (List.getD L k default))) : Int)
abbrev a2__heldBindingSLa (L : List Binding) (k : Nat) := (0 <= (k : Int) /\ (List.map bindingC L)[Int.toNat (k : Int)]? = some (bindingF (List.getD L k default)))
theorem Znt (L : List Binding) (n : Int) (k : Nat) : aexec Tryz.prog (loopAt Tryz.f111 0) (Zt L n k) [.br [.draw [], .cells (bindingF
 (List.getD L k default)), .call [Mode.rd] [] (AV.sv (ls (mText (n + (↑(sumBy cB (List.take k L)) : Int))))), .br [.ghost (.sel [] [4]), .out 1] [.cells
 (bindingF (List.getD L k default)), .call [Mode.rd, Mode.rd] [] (AV.sv (li (n + (↑(sumBy cB (List.take k L)) : Int) + 1 + (a1__heldBindingSLa L k)))), .br [.ghost
 (.sel [] [4]), .out 1] [.cells (bindingF (List.getD L k default)), .br [.ghost (.sel [] [4]), .out 1] [.cells (bindingF (List.getD L k default)),
 .br [.ghost (.sel [] [4]), .out 1] [.ghost (.sel [] [0, 1, 5]), .goto (List.length L - (k + 1)) (Zt L n (k + 1))]]]]] [.ghost (.sel
 [] [1]), .out 0]] (loopK (Z3i L n) (Zc4 L n) (List.length L - k)) = (List.length (List.map bindingC L) <= 9223372036854775807 -> (decide ((k : Int) <
 (↑(List.length (List.map bindingC L)) : Int)) = true -> (a2__heldBindingSLa L k) /\ Zb1 (n + (↑(sumBy cB (List.take k L)) : Int)) /\ (decide (Array.toList (ByteArray.data
 (Binding.text (List.getD L k default))) ≠ Array.toList (ByteArray.data (mText (n + (↑(sumBy cB (List.take k L)) : Int))))) = true -> False /\ Z7 L n (li (-1 : Int))
 = Z7 L n (li (-1 : Int))) /\ (decide (Array.toList (ByteArray.data (Binding.text (List.getD L k default))) ≠ Array.toList (ByteArray.data (mText (n + (↑(sumBy cB
 (List.take k L)) : Int))))) = false -> rng .i64 (n + (↑(sumBy cB (List.take k L)) : Int) + 1) /\ (a2__heldBindingSLa L k) /\ Zjy (Binding.scopes (List.getD L k
 default)) (n + (↑(sumBy cB (List.take k L)) : Int) + 1) /\ (decide (n + (↑(sumBy cB (List.take k L)) : Int) + 1 + (a1__heldBindingSLa L k) < 0) = true -> False /\ Z7
 L n (li (-1 : Int)) = Z7 L n (li (-1 : Int))) /\ (decide (n + (↑(sumBy cB (List.take k L)) : Int) + 1 + (a1__heldBindingSLa L k) < 0) = false -> (a2__heldBindingSLa
 L k) /\ (decide (Binding.kind (List.getD L k default) ≠ n + (↑(sumBy cB (List.take k L)) : Int) + 1 + (a1__heldBindingSLa L k)) = true -> False /\ Z7 L n (li (-1 :
 Int)) = Z7 L n (li (-1 : Int))) /\ (decide (Binding.kind (List.getD L k default) ≠ n + (↑(sumBy cB (List.take k L)) : Int) + 1 + (a1__heldBindingSLa L k)) = false ->
 rng .i64 (n + (↑(sumBy cB (List.take k L)) : Int) + 1 + (a1__heldBindingSLa L k) + 1) /\ (a2__heldBindingSLa L k) /\ (decide (Binding.number (List.getD L k default) ≠ n +
 (↑(sumBy cB (List.take k L)) : Int) + 1 + (a1__heldBindingSLa L k) + 1) = true -> False /\ Z7 L n (li (-1 : Int)) = Z7 L n (li (-1 : Int))) /\ (decide
 (Binding.number (List.getD L k default) ≠ n + (↑(sumBy cB (List.take k L)) : Int) + 1 + (a1__heldBindingSLa L k) + 1) = false -> rng .i64 (n + (↑(sumBy cB (List.take k L)) :
 Int) + 1 + (a1__heldBindingSLa L k) + 1 + 1) /\ rng .i64 ((k : Int) + 1) /\ List.length L - (k + 1) < List.length L - k /\ Z8d L n (li ((k : Int) + 1)) (li (n
 + (↑(sumBy cB (List.take k L)) : Int) + 1 + (a1__heldBindingSLa L k) + 1 + 1)) = Zt L n (k + 1) /\ Z3i L n (List.length L - (k + 1)) (Zt
 L n (k + 1))))))) /\ (decide ((k : Int) < (↑(List.length (List.map bindingC L)) : Int)) = false -> True /\ Z32 L n (li (n + (↑(sumBy cB (List.take k L)) : Int))) =
 Z32 L n (li (n + (↑(sumBy cB L) : Int))))) := by kernel_rfl
theorem Zqi (L : List Binding) (n : Int) (h0 : 0 <= n) (h : n + (↑(sumBy cB L) : Int) <= 2147483647) (hm : seqM mkB cB L n = L)  : LoopSem Tryz.prog (loopAt Tryz.f111
 0) (Z3i L n) (Zc4 L n) := by
  refine LoopSem.ofHead wide fun k h => ⟨_, _, Znt L n k, ?_⟩
  try delta a1__heldBindingSLa a2__heldBindingSLa
  have g0 := sumBy_takeLe cB L (k + 1)
  have g1 := fun hk : k < L.length => mkB_fix (seqM_get hm hk)
  with_reducible repeat' (first | apply And.intro | exact flatI | exact flatS | exact rowLens | (intro; skip) | apply obsN | apply obsC | apply obA | apply obM | apply obB | apply svA | apply tupA | apply lcA | apply lcS | apply svC | apply liC | apply lbC | apply lsC | apply vIc | apply vBc | apply vSc | apply vLc | apply mapC | apply hdI | apply Zi1 | apply Zf6 | apply Zf7 | apply Z6 | apply Z2u)
  all_goals (try simp only [std, stdM] at *)
  all_goals (try (first | with_reducible apply Z6 | with_reducible apply Z2u | (simp only [<- List.map_append]; first | with_reducible apply Z6 | with_reducible apply Z2u)))
  all_goals (try (first | with_reducible rfl | omega | assumption | exact dT ‹_› | exact dF ‹_› | ((first | refine rowGet ?_ | refine getC ?_ rfl); (first | omega | (simp only [std, stdM]; omega) | grind)) | (refine set_row ?_; (simp only [List.length_map, List.length_set, mkTo_len]; omega)) | (refine mkToRow ?_; (first | omega | (simp only [std, stdM]; omega) | grind)) | (refine mkTo_row ?_ rfl; (first | omega | (simp only [std, stdM]; omega) | grind)) | (refine mkTo_step ?_ ?_; (first | omega | (simp only [std, stdM]; omega) | grind); (first | grind [sumBy_step, getD_mem', cB_eq, snocI, snocS, rowSnoc])) | (show (_ : St) = _; rfl) | grind [sumBy_step, getD_mem', cB_eq, snocI, snocS, rowSnoc]))
theorem Zq3 (L : List Binding) (n : Int) : aexec Tryz.prog (Tryz.f111.body.getD .skip) (entry [] [ll (List.map bindingC L), li n] 50) [.ghost
 (.sel [] [0, 1, 5]), .loop (List.length L - 0) (Zt L n 0) (Z3i L n) [(True, AEx.exit 0, Z32 L n (li (n + (↑(sumBy cB L) :
 Int))), [.fin []]), (False, AEx.ret, Z7 L n (li (-1 : Int)), [.fin []])]] (finK Tryz.prog [ResultVar.tmp 4] [] (AV.sv (li (n + (↑(sumBy cB L) : Int))))) =
 (Z8d L n (li 0) (li n) = Zt L n 0 /\ Z3i L n (List.length L - 0) (Zt L n 0) /\ LoopSem Tryz.prog (loopAt Tryz.f111 0)
 (Z3i L n) (Zc4 L n) /\ (True -> ObsEq [] [] /\ AV.sv (li (n + (↑(sumBy cB L) : Int))) = AV.sv (li (n + (↑(sumBy cB L) : Int)))) /\ (False -> ObsEq [] [] /\
 AV.sv (li (-1 : Int)) = AV.sv (li (n + (↑(sumBy cB L) : Int)))) /\ True) := by kernel_rfl
theorem Zfp (L : List Binding) (n : Int) (h0 : 0 <= n) (h : n + sumBy cB L <= 2147483647) (hm : seqM mkB cB L n = L)  : Zjz L n := by
  refine CallOK.ofRun wide (Zq3 L n) Tryz.call111 Tryz.func111 rfl rfl rfl ?_
  have gl := cB_len L
  with_reducible repeat' (first | apply And.intro | exact flatI | exact flatS | exact rowLens | (intro; skip) | apply obsN | apply obsC | apply obA | apply obM | apply obB | apply svA | apply tupA | apply lcA | apply lcS | apply svC | apply liC | apply lbC | apply lsC | apply vIc | apply vBc | apply vSc | apply vLc | apply mapC | apply hdI | apply Zi1 | apply Zqi | apply Zf6 | apply Zf7 | apply Z6 | apply Z2u)
  all_goals (try simp only [std, stdM] at *)
  all_goals (try (first | with_reducible apply Z6 | with_reducible apply Z2u | (simp only [<- List.map_append]; first | with_reducible apply Z6 | with_reducible apply Z2u)))
  all_goals (try (first | with_reducible rfl | omega | assumption | exact dT ‹_› | exact dF ‹_› | ((first | refine rowGet ?_ | refine getC ?_ rfl); (first | omega | (simp only [std, stdM]; omega) | grind)) | (refine set_row ?_; (simp only [List.length_map, List.length_set, mkTo_len]; omega)) | (refine mkToRow ?_; (first | omega | (simp only [std, stdM]; omega) | grind)) | (refine mkTo_row ?_ rfl; (first | omega | (simp only [std, stdM]; omega) | grind)) | (refine mkTo_step ?_ ?_; (first | omega | (simp only [std, stdM]; omega) | grind); (first | grind [mkTo_all, snocI, snocS, rowSnoc])) | (show (_ : St) = _; rfl) | grind [mkTo_all, snocI, snocS, rowSnoc]))
abbrev Zmy (L : List Rules) (n : Int) : Prop := CallOK Tryz.prog 112 [] [ll (L.map rulesC), li n] [] (.sv (li (n + sumBy cR L)))
def Zao (L : List Rules) (n : Int) (x0 : SV) (x1 : SV) : St := St.mk (regsOf 40 [(0, AV.sv (ll (List.map rulesC L))), (1, AV.sv x1), (5, AV.sv x0)]) [] 0 
def Z1j (L : List Rules) (n : Int) (k : Nat) : St := Zao L n (li (k : Int)) (li (n + (↑(sumBy cR (List.take k L)) : Int))) 
abbrev Z51 (L : List Rules) (n : Int) : Nat -> St -> Prop := Head (Z1j L n) (fun k => k <= List.length L /\ List.length L <= 9223372036854775807) fun k =>
 List.length L - k 
def Z3z (L : List Rules) (n : Int) (x0 : SV) : St := St.mk (regsOf 40 [(1, AV.sv x0)]) [] 0 
def Zr (L : List Rules) (n : Int) (x0 : SV) : St := St.mk (regsOf 40 [(4, AV.sv x0)]) [] 0 
def Zey (L : List Rules) (n : Int) : List (Prop × AEx × St) := [(True, AEx.exit 0, Z3z L n (li (n + (↑(sumBy cR L) : Int)))), (False, AEx.ret,
 Zr L n (li (-1 : Int)))]

theorem Zkz {L : List Rules} {n : Int} {k : Nat} {x0 : SV} {x1 : SV} (h0 : x0 = (li (k : Int))) (h1 : x1 = (li (n + (↑(sumBy cR (List.take k L)) : Int)))) :
 Zao L n x0 x1 = Z1j L n k := by
  rw [h0, h1]
  rfl
theorem Zi2 {L : List Rules} {n : Int} {x0 y0 : SV} (h0 : x0 = y0) : Z3z L n x0 = Z3z L n y0 := by rw [h0]
theorem Zi3 {L : List Rules} {n : Int} {x0 y0 : SV} (h0 : x0 = y0) : Zr L n x0 = Zr L n y0 := by rw [h0]
abbrev a1__heldRulesSLa (L : List Rules) (k : Nat) := (↑(sumBy cY (Rules.literals (List.getD L k default))) : Int)
abbrev a2__heldRulesSLa (L : List Rules) (k : Nat) := (↑(sumBy cY (Rules.patterns (List.getD L k default))) : Int)
abbrev a3__heldRulesSLa (L : List Rules) (n : Int) (k : Nat) := (li (n + (↑(sumBy cR (List.take k L)) : Int) + (a1__heldRulesSLa L k) + (a2__heldRulesSLa L k) + (↑(sumBy cY
 (Rules.templates (List.getD L k default))) : Int)))
theorem Zq4 (L : List Rules) (n : Int) (k : Nat) : aexec Tryz.prog (loopAt Tryz.f112 0) (Z1j L n k) [.br [.cells (rulesF (List.getD L k default)),
 .call [Mode.rd, Mode.rd] [] (AV.sv (li (n + (↑(sumBy cR (List.take k L)) : Int) + (a1__heldRulesSLa L k)))), .br [.ghost (.sel [] [4]), .out 1] [.cells (rulesF
 (List.getD L k default)), .call [Mode.rd, Mode.rd] [] (AV.sv (li (n + (↑(sumBy cR (List.take k L)) : Int) + (a1__heldRulesSLa L k) + (a2__heldRulesSLa L k)))), .br
 [.ghost (.sel [] [4]), .out 1] [.cells (rulesF (List.getD L k default)), .call [Mode.rd, Mode.rd] [] (AV.sv (a3__heldRulesSLa L n k)), .br [.ghost
 (.sel [] [4]), .out 1] [.ghost (.sel [] [0, 1, 5]), .goto (List.length L - (k + 1)) (Z1j L n (k + 1))]]]] [.ghost (.sel [] [1]), .out 0]]
 (loopK (Z51 L n) (Zey L n) (List.length L - k)) = (List.length (List.map rulesC L) <= 9223372036854775807 -> (decide ((k : Int) < (↑(List.length (List.map
 rulesC L)) : Int)) = true -> (0 <= (k : Int) /\ (List.map rulesC L)[Int.toNat (k : Int)]? = some (rulesF (List.getD L k default))) /\ CallOK Tryz.prog 103 [] [ll (List.map syntaxC
 (Rules.literals (List.getD L k default))), li (n + (↑(sumBy cR (List.take k L)) : Int))] [] (AV.sv (li (n + (↑(sumBy cR (List.take k L)) : Int) + (a1__heldRulesSLa L k)))) /\
 (decide (n + (↑(sumBy cR (List.take k L)) : Int) + (a1__heldRulesSLa L k) < 0) = true -> False /\ Zr L n (li (-1 : Int)) = Zr L n (li (-1 : Int))) /\
 (decide (n + (↑(sumBy cR (List.take k L)) : Int) + (a1__heldRulesSLa L k) < 0) = false -> (0 <= (k : Int) /\ (List.map rulesC L)[Int.toNat (k : Int)]? = some (rulesF (List.getD L k
 default))) /\ CallOK Tryz.prog 103 [] [ll (List.map syntaxC (Rules.patterns (List.getD L k default))), li (n + (↑(sumBy cR (List.take k L)) : Int) + (a1__heldRulesSLa L k))] []
 (AV.sv (li (n + (↑(sumBy cR (List.take k L)) : Int) + (a1__heldRulesSLa L k) + (a2__heldRulesSLa L k)))) /\ (decide (n + (↑(sumBy cR (List.take k L)) : Int) + (a1__heldRulesSLa L
 k) + (a2__heldRulesSLa L k) < 0) = true -> False /\ Zr L n (li (-1 : Int)) = Zr L n (li (-1 : Int))) /\ (decide (n + (↑(sumBy cR (List.take k L)) : Int) +
 (a1__heldRulesSLa L k) + (a2__heldRulesSLa L k) < 0) = false -> (0 <= (k : Int) /\ (List.map rulesC L)[Int.toNat (k : Int)]? = some (rulesF (List.getD L k default))) /\ CallOK
 Tryz.prog 103 [] [ll (List.map syntaxC (Rules.templates (List.getD L k default))), li (n + (↑(sumBy cR (List.take k L)) : Int) + (a1__heldRulesSLa L k) + (a2__heldRulesSLa L k))]
 [] (AV.sv (a3__heldRulesSLa L n k)) /\ (decide (n + (↑(sumBy cR (List.take k L)) : Int) + (a1__heldRulesSLa L k) + (a2__heldRulesSLa L k) + (↑(sumBy cY (Rules.templates (List.getD
 L k default))) : Int) < 0) = true -> False /\ Zr L n (li (-1 : Int)) = Zr L n (li (-1 : Int))) /\ (decide (n + (↑(sumBy cR (List.take k L)) : Int) +
 (a1__heldRulesSLa L k) + (a2__heldRulesSLa L k) + (↑(sumBy cY (Rules.templates (List.getD L k default))) : Int) < 0) = false -> rng .i64 ((k : Int) + 1) /\ List.length L -
 (k + 1) < List.length L - k /\ Zao L n (li ((k : Int) + 1)) (a3__heldRulesSLa L n k) = Z1j L n (k + 1) /\ Z51 L n (List.length L - (k + 1))
 (Z1j L n (k + 1)))))) /\ (decide ((k : Int) < (↑(List.length (List.map rulesC L)) : Int)) = false -> True /\ Z3z L n (li (n + (↑(sumBy cR (List.take k L)) :
 Int))) = Z3z L n (li (n + (↑(sumBy cR L) : Int))))) := by kernel_rfl
theorem Zto (L : List Rules) (n : Int) (h0 : 0 <= n) (h : n + (↑(sumBy cR L) : Int) <= 2147483647) (h2 : List.length L <= 2147483647) (hm : seqM mkR cR L n = L)  : LoopSem
 Tryz.prog (loopAt Tryz.f112 0) (Z51 L n) (Zey L n) := by
  refine LoopSem.ofHead wide fun k h => ⟨_, _, Zq4 L n k, ?_⟩
  try delta a1__heldRulesSLa a2__heldRulesSLa a3__heldRulesSLa
  have g0 := sumBy_takeLe cR L (k + 1)
  have g1 := fun hk : k < L.length => mkR_fix (seqM_get hm hk)
  with_reducible repeat' (first | apply And.intro | exact flatI | exact flatS | exact rowLens | (intro; skip) | apply obsN | apply obsC | apply obA | apply obM | apply obB | apply svA | apply tupA | apply lcA | apply lcS | apply svC | apply liC | apply lbC | apply lsC | apply vIc | apply vBc | apply vSc | apply vLc | apply mapC | apply hdI | apply Zkz | apply Zi2 | apply Zi3 | apply Z5o | apply Z6i)
  all_goals (try simp only [std, stdM] at *)
  all_goals (try (first | with_reducible apply Z5o | with_reducible apply Z6i | (simp only [<- List.map_append]; first | with_reducible apply Z5o | with_reducible apply Z6i)))
  all_goals (try (first | with_reducible rfl | omega | assumption | exact dT ‹_› | exact dF ‹_› | ((first | refine rowGet ?_ | refine getC ?_ rfl); (first | omega | (simp only [std, stdM]; omega) | grind)) | (refine set_row ?_; (simp only [List.length_map, List.length_set, mkTo_len]; omega)) | (refine mkToRow ?_; (first | omega | (simp only [std, stdM]; omega) | grind)) | (refine mkTo_row ?_ rfl; (first | omega | (simp only [std, stdM]; omega) | grind)) | (refine mkTo_step ?_ ?_; (first | omega | (simp only [std, stdM]; omega) | grind); (first | grind [sumBy_step, getD_mem', cR_eq, snocI, snocS, rowSnoc])) | (show (_ : St) = _; rfl) | grind [sumBy_step, getD_mem', cR_eq, snocI, snocS, rowSnoc]))
theorem Zs1 (L : List Rules) (n : Int) : aexec Tryz.prog (Tryz.f112.body.getD .skip) (entry [] [ll (List.map rulesC L), li n] 40) [.ghost
 (.sel [] [0, 1, 5]), .loop (List.length L - 0) (Z1j L n 0) (Z51 L n) [(True, AEx.exit 0, Z3z L n (li (n + (↑(sumBy cR L) : Int))),
 [.fin []]), (False, AEx.ret, Zr L n (li (-1 : Int)), [.fin []])]] (finK Tryz.prog [ResultVar.tmp 4] [] (AV.sv (li (n + (↑(sumBy cR L) : Int))))) =
 (Zao L n (li 0) (li n) = Z1j L n 0 /\ Z51 L n (List.length L - 0) (Z1j L n 0) /\ LoopSem Tryz.prog (loopAt Tryz.f112 0)
 (Z51 L n) (Zey L n) /\ (True -> ObsEq [] [] /\ AV.sv (li (n + (↑(sumBy cR L) : Int))) = AV.sv (li (n + (↑(sumBy cR L) : Int)))) /\ (False -> ObsEq [] [] /\ AV.sv
 (li (-1 : Int)) = AV.sv (li (n + (↑(sumBy cR L) : Int)))) /\ True) := by kernel_rfl
theorem Zk0 (L : List Rules) (n : Int) (h0 : 0 <= n) (h : n + sumBy cR L <= 2147483647) (h2 : L.length <= 2147483647) (hm : seqM mkR cR L n = L)  : Zmy L n := by
  refine CallOK.ofRun wide (Zs1 L n) Tryz.call112 Tryz.func112 rfl rfl rfl ?_
  with_reducible repeat' (first | apply And.intro | exact flatI | exact flatS | exact rowLens | (intro; skip) | apply obsN | apply obsC | apply obA | apply obM | apply obB | apply svA | apply tupA | apply lcA | apply lcS | apply svC | apply liC | apply lbC | apply lsC | apply vIc | apply vBc | apply vSc | apply vLc | apply mapC | apply hdI | apply Zkz | apply Zto | apply Zi2 | apply Zi3 | apply Z5o | apply Z6i)
  all_goals (try simp only [std, stdM] at *)
  all_goals (try (first | with_reducible apply Z5o | with_reducible apply Z6i | (simp only [<- List.map_append]; first | with_reducible apply Z5o | with_reducible apply Z6i)))
  all_goals (try (first | with_reducible rfl | omega | assumption | exact dT ‹_› | exact dF ‹_› | ((first | refine rowGet ?_ | refine getC ?_ rfl); (first | omega | (simp only [std, stdM]; omega) | grind)) | (refine set_row ?_; (simp only [List.length_map, List.length_set, mkTo_len]; omega)) | (refine mkToRow ?_; (first | omega | (simp only [std, stdM]; omega) | grind)) | (refine mkTo_row ?_ rfl; (first | omega | (simp only [std, stdM]; omega) | grind)) | (refine mkTo_step ?_ ?_; (first | omega | (simp only [std, stdM]; omega) | grind); (first | grind [mkTo_all, snocI, snocS, rowSnoc])) | (show (_ : St) = _; rfl) | grind [mkTo_all, snocI, snocS, rowSnoc]))
abbrev Zdc (x : Expander) (n : Int) : Prop := CallOK Tryz.prog 50 [] [.agg [vL (x.bindings.map bindingC), vL (x.macros.map rulesC), vI x.scope, vI x.vari, vI x.steps], li n] [] (.sv (li (n + sumBy cB x.bindings + sumBy cR x.macros)))
abbrev Z1f (x : Expander) := (↑(sumBy cB (Expander.bindings x)) : Int)
abbrev Z2b (x : Expander) (n : Int) := (li (n + (Z1f x) + (↑(sumBy cR (Expander.macros x)) : Int)))
theorem Zq5 (x : Expander) (n : Int) : aexec Tryz.prog (Tryz.f50.body.getD .skip) (entry [] [SV.agg [vL (List.map bindingC (Expander.bindings x)),
 vL (List.map rulesC (Expander.macros x)), vI (Expander.scope x), vI (Expander.vari x), vI (Expander.steps x)], li n] 18) [.call [Mode.rd, Mode.rd] [] (AV.sv (li (n +
 (Z1f x)))), .br [.fin []] [.call [Mode.rd, Mode.rd] [] (AV.sv (Z2b x n)), .br [.fin []] [.fin []]]] (finK Tryz.prog [ResultVar.tmp 4]
 [] (AV.sv (Z2b x n))) = (Zjz (Expander.bindings x) n /\ (decide (n + (Z1f x) < 0) = true -> ObsEq [] [] /\ AV.sv (li (-1 : Int)) = AV.sv
 (Z2b x n)) /\ (decide (n + (Z1f x) < 0) = false -> Zmy (Expander.macros x) (n + (Z1f x)) /\ (decide (n + (Z1f x) +
 (↑(sumBy cR (Expander.macros x)) : Int) < 0) = true -> ObsEq [] [] /\ AV.sv (li (-1 : Int)) = AV.sv (Z2b x n)) /\ (decide (n + (Z1f x) + (↑(sumBy cR
 (Expander.macros x)) : Int) < 0) = false -> ObsEq [] [] /\ AV.sv (Z2b x n) = AV.sv (Z2b x n)))) := by kernel_rfl
theorem Zfq (x : Expander) (n : Int) (h0 : 0 <= n) (h : n + (sumBy cB x.bindings + sumBy cR x.macros : Nat) <= 2147483647) (h21 : x.macros.length <= 2147483647) (hm0 : seqM
 mkB cB x.bindings (n) = x.bindings) (hm1 : seqM mkR cR x.macros (n + sumBy cB x.bindings) = x.macros)  : Zdc x n := by
  refine CallOK.ofRun wide (Zq5 x n) Tryz.call50 Tryz.func50 rfl rfl rfl ?_
  try delta Z1f Z2b
  with_reducible repeat' (first | apply And.intro | exact flatI | exact flatS | exact rowLens | (intro; skip) | apply obsN | apply obsC | apply obA | apply obM | apply obB | apply svA | apply tupA | apply lcA | apply lcS | apply svC | apply liC | apply lbC | apply lsC | apply vIc | apply vBc | apply vSc | apply vLc | apply mapC | apply Zfp | apply Zk0)
  all_goals (try simp only [std, stdM] at *)
  all_goals (try (first | with_reducible apply Zfp | with_reducible apply Zk0 | (simp only [<- List.map_append]; first | with_reducible apply Zfp | with_reducible apply Zk0)))
  all_goals (try (first | with_reducible rfl | omega | assumption | exact dT ‹_› | exact dF ‹_› | ((first | refine rowGet ?_ | refine getC ?_ rfl); (first | omega | (simp only [std, stdM]; omega) | grind)) | (refine set_row ?_; (simp only [List.length_map, List.length_set, mkTo_len]; omega)) | (refine mkToRow ?_; (first | omega | (simp only [std, stdM]; omega) | grind)) | (refine mkTo_row ?_ rfl; (first | omega | (simp only [std, stdM]; omega) | grind)) | (refine mkTo_step ?_ ?_; (first | omega | (simp only [std, stdM]; omega) | grind); (first | grind [snocI, snocS, rowSnoc])) | (show (_ : St) = _; rfl) | grind [snocI, snocS, rowSnoc]))
end Go.Proofs.YtegbadciefljcaaGreat
end
section
namespace Go.Proofs.YtegbadciefljcaaGreat
open Go Go.Proofs.YtegbadciefljcaaGreat.Ab
set_option linter.unusedVariables false
set_option linter.unusedSimpArgs false
set_option maxHeartbeats 4000000
abbrev Znu (L : List Int) (left : Int) : Prop := CallOK Tryz.prog 92 [] [ll (L.map intC), li left] [] (.sv (li (sz L.length left)))
theorem Zyj (L : List Int) (left : Int) : aexec Tryz.prog (Tryz.f92.body.getD .skip) (entry [] [ll (List.map intC L), li left] 12) [.br [.fin []]
 [.fin []]] (finK Tryz.prog [ResultVar.tmp 4] [] (AV.sv (li (sz (List.length L) left)))) = (List.length (List.map intC L) <= 9223372036854775807 -> rng .i64 (left -
 (↑(List.length (List.map intC L)) : Int)) /\ (decide (left - (↑(List.length (List.map intC L)) : Int) < 0) = true -> ObsEq [] [] /\ AV.sv (li (-1 : Int)) = AV.sv (li (sz (List.length
 L) left))) /\ (decide (left - (↑(List.length (List.map intC L)) : Int) < 0) = false -> ObsEq [] [] /\ AV.sv (li (left - (↑(List.length (List.map intC L)) : Int))) = AV.sv (li (sz
 (List.length L) left)))) := by kernel_rfl
theorem Zfr (L : List Int) (left : Int) (h0 : 0 <= left) (h : left <= 2147483647)  : Znu L left := by
  refine CallOK.ofRun wide (Zyj L left) Tryz.call92 Tryz.func92 rfl rfl rfl ?_
  with_reducible repeat' (first | apply And.intro | exact flatI | exact flatS | exact rowLens | (intro; skip) | apply obsN | apply obsC | apply obA | apply obM | apply obB | apply svA | apply tupA | apply lcA | apply lcS | apply svC | apply liC | apply lbC | apply lsC | apply vIc | apply vBc | apply vSc | apply vLc | apply mapC)
  all_goals (try simp only [std] at *)
  all_goals (try (first | with_reducible rfl | omega | assumption | exact dT ‹_› | exact dF ‹_› | ((first | refine rowGet ?_ | refine getC ?_ rfl); (first | omega | (simp only [std]; omega) | grind)) | (show (_ : St) = _; rfl) | grind [sz, snocI, snocS, rowSnoc]))
abbrev Z9m (L : List Syntax) (left : Int) : Prop := CallOK Tryz.prog 26 [] [ll (L.map syntaxC), li left] [] (.sv (li (sz (L.length + sumBy wY L) left)))
abbrev Z4p (x : Syntax) (left : Int) : Prop := CallOK Tryz.prog 27 [] [syntaxA x, li left] [] (.sv (li (sz (wY x) left)))
def Zbu (L : List Syntax) (left : Int) (x0 : SV) (x1 : SV) : St := St.mk (regsOf 27 [(0, AV.sv (ll (List.map syntaxC L))), (1, AV.sv x1), (5, AV.sv x0)]) [] 0 
def Z26 (L : List Syntax) (left : Int) (k : Nat × Int) : St := Zbu L left (li (↑(Prod.fst k) : Int)) (li (Prod.snd k)) 
abbrev Z6j (L : List Syntax) (left : Int) : Nat -> St -> Prop := Head (Z26 L left) (fun k => Prod.fst k <= List.length L /\ List.length L <= 9223372036854775807 /\ 0 <=
 Prod.snd k /\ Prod.snd k <= left /\ sz (sumBy wY (List.drop (Prod.fst k) L)) (Prod.snd k) = sz (List.length L + sumBy wY L) left) fun k => List.length L - Prod.fst k 
def Z52 (L : List Syntax) (left : Int) (x0 : SV) : St := St.mk (regsOf 27 [(1, AV.sv x0)]) [] 0 
def Z53 (L : List Syntax) (left : Int) (x0 : SV) : St := St.mk (regsOf 27 [(4, AV.sv x0)]) [] 0 
def Zfs (L : List Syntax) (left : Int) : List (Prop × AEx × St) := [(0 <= sz (List.length L + sumBy wY L) left, AEx.exit 0, Z52 L left (li (sz (List.length L
 + sumBy wY L) left))), (sz (List.length L + sumBy wY L) left = (-1 : Int), AEx.ret, Z53 L left (li (-1 : Int)))]

theorem Zmz {L : List Syntax} {left : Int} {k : Nat × Int} {x0 : SV} {x1 : SV} (h0 : x0 = (li (↑(Prod.fst k) : Int))) (h1 : x1 = (li (Prod.snd k))) : Zbu L
 left x0 x1 = Z26 L left k := by
  rw [h0, h1]
  rfl
theorem Zk1 {L : List Syntax} {left : Int} {x0 y0 : SV} (h0 : x0 = y0) : Z52 L left x0 = Z52 L left y0 := by rw [h0]
theorem Zk2 {L : List Syntax} {left : Int} {x0 y0 : SV} (h0 : x0 = y0) : Z53 L left x0 = Z53 L left y0 := by rw [h0]
theorem Zqj (L : List Syntax) (left : Int) (k : Nat × Int) : aexec Tryz.prog (loopAt Tryz.f26 0) (Z26 L left k) [.br [.cells (syntaxF (List.getD L
 (Prod.fst k) default)), .call [Mode.rd, Mode.rd] [] (AV.sv (li (sz (wY (List.getD L (Prod.fst k) default)) (Prod.snd k)))), .br [.ghost (.sel [] [4]), .out 1]
 [.ghost (.sel [] [0, 1, 5]), .goto (List.length L - (Prod.fst k + 1)) (Z26 L left (Prod.fst k + 1, sz (wY (List.getD L (Prod.fst k) default)) (Prod.snd
 k)))]] [.ghost (.sel [] [1]), .out 0]] (loopK (Z6j L left) (Zfs L left) (List.length L - Prod.fst k)) = (List.length (List.map syntaxC L) <=
 9223372036854775807 -> (decide ((↑(Prod.fst k) : Int) < (↑(List.length (List.map syntaxC L)) : Int)) = true -> (0 <= (↑(Prod.fst k) : Int) /\ (List.map syntaxC L)[Int.toNat
 (↑(Prod.fst k) : Int)]? = some (syntaxF (List.getD L (Prod.fst k) default))) /\ Z4p (List.getD L (Prod.fst k) default) (Prod.snd k) /\ (decide (sz (wY (List.getD L
 (Prod.fst k) default)) (Prod.snd k) < 0) = true -> sz (List.length L + sumBy wY L) left = (-1 : Int) /\ Z53 L left (li (-1 : Int)) = Z53 L left (li (-1 :
 Int))) /\ (decide (sz (wY (List.getD L (Prod.fst k) default)) (Prod.snd k) < 0) = false -> rng .i64 ((↑(Prod.fst k) : Int) + 1) /\ List.length L - (Prod.fst k + 1) <
 List.length L - Prod.fst k /\ Zbu L left (li ((↑(Prod.fst k) : Int) + 1)) (li (sz (wY (List.getD L (Prod.fst k) default)) (Prod.snd k))) = Z26 L left
 (Prod.fst k + 1, sz (wY (List.getD L (Prod.fst k) default)) (Prod.snd k)) /\ Z6j L left (List.length L - (Prod.fst k + 1)) (Z26 L left (Prod.fst k + 1, sz (wY
 (List.getD L (Prod.fst k) default)) (Prod.snd k))))) /\ (decide ((↑(Prod.fst k) : Int) < (↑(List.length (List.map syntaxC L)) : Int)) = false -> 0 <= sz (List.length L + sumBy wY L)
 left /\ Z52 L left (li (Prod.snd k)) = Z52 L left (li (sz (List.length L + sumBy wY L) left)))) := by kernel_rfl
theorem Zv3 (L : List Syntax) (left : Int) (h0 : 0 <= left) (h : left <= 2147483647) (ih : ∀ (x : Syntax), x ∈ L -> ∀ (left : Int), 0 <= left -> left <= 2147483647 ->
 Z4p x left)  : LoopSem Tryz.prog (loopAt Tryz.f26 0) (Z6j L left) (Zfs L left) := by
  refine LoopSem.ofHead wide fun k h => ⟨_, _, Zqj L left k, ?_⟩
  obtain ⟨i, n⟩ := k
  simp only at *
  with_reducible repeat' (first | apply And.intro | exact flatI | exact flatS | exact rowLens | exact ih | (intro; skip) | apply obsN | apply obsC | apply obA | apply obM | apply obB | apply svA | apply tupA | apply lcA | apply lcS | apply svC | apply liC | apply lbC | apply lsC | apply vIc | apply vBc | apply vSc | apply vLc | apply mapC | apply hdI | apply Zmz | apply Zk1 | apply Zk2 | apply ih)
  all_goals (try simp only [std] at *)
  all_goals (try (first | with_reducible apply ih | (simp only [<- List.map_append]; first | with_reducible apply ih)))
  all_goals (try (first | with_reducible rfl | omega | assumption | exact dT ‹_› | exact dF ‹_› | ((first | refine rowGet ?_ | refine getC ?_ rfl); (first | omega | (simp only [std]; omega) | grind)) | (show (_ : St) = _; rfl) | grind [drop_get, sumBy, sz, getD_mem', snocI, snocS, rowSnoc]))
theorem Ztp (L : List Syntax) (left : Int) : aexec Tryz.prog (Tryz.f26.body.getD .skip) (entry [] [ll (List.map syntaxC L), li left] 27) [.br
 [.fin []] [.ghost (.sel [] [0, 1, 5]), .loop (List.length L - 0) (Z26 L left (0, left - (↑(List.length L) : Int))) (Z6j L left) [(0 <= sz
 (List.length L + sumBy wY L) left, AEx.exit 0, Z52 L left (li (sz (List.length L + sumBy wY L) left)), [.fin []]), (sz (List.length L + sumBy wY L) left = (-1 :
 Int), AEx.ret, Z53 L left (li (-1 : Int)), [.fin []])]]] (finK Tryz.prog [ResultVar.tmp 4] [] (AV.sv (li (sz (List.length L + sumBy wY L) left)))) = (List.length
 (List.map syntaxC L) <= 9223372036854775807 -> rng .i64 (left - (↑(List.length (List.map syntaxC L)) : Int)) /\ (decide (left - (↑(List.length (List.map syntaxC L)) : Int) <
 0) = true -> ObsEq [] [] /\ AV.sv (li (-1 : Int)) = AV.sv (li (sz (List.length L + sumBy wY L) left))) /\ (decide (left - (↑(List.length (List.map syntaxC L)) : Int) < 0) = false ->
 Zbu L left (li 0) (li (left - (↑(List.length (List.map syntaxC L)) : Int))) = Z26 L left (0, left - (↑(List.length L) : Int)) /\ Z6j L left
 (List.length L - 0) (Z26 L left (0, left - (↑(List.length L) : Int))) /\ LoopSem Tryz.prog (loopAt Tryz.f26 0) (Z6j L left) (Zfs L left) /\
 (Int.NonNeg (sz (List.length L + sumBy wY L) left - 0) -> ObsEq [] [] /\ AV.sv (li (sz (List.length L + sumBy wY L) left)) = AV.sv (li (sz (List.length L + sumBy wY L) left))) /\ (sz
 (List.length L + sumBy wY L) left = (-1 : Int) -> ObsEq [] [] /\ AV.sv (li (-1 : Int)) = AV.sv (li (sz (List.length L + sumBy wY L) left))) /\ True)) := by kernel_rfl
theorem Zab (L : List Syntax) (left : Int) (h0 : 0 <= left) (h : left <= 2147483647) (ih : ∀ x ∈ L, ∀ (left : Int) (h0 : 0 <= left) (h : left <= 2147483647), Z4p x
 left)  : Z9m L left := by
  refine CallOK.ofRun wide (Ztp L left) Tryz.call26 Tryz.func26 rfl rfl rfl ?_
  with_reducible repeat' (first | apply And.intro | exact flatI | exact flatS | exact rowLens | exact ih | (intro; skip) | apply obsN | apply obsC | apply obA | apply obM | apply obB | apply svA | apply tupA | apply lcA | apply lcS | apply svC | apply liC | apply lbC | apply lsC | apply vIc | apply vBc | apply vSc | apply vLc | apply mapC | apply hdI | apply Zmz | apply Zv3 | apply Zk1 | apply Zk2)
  all_goals (try simp only [std] at *)
  all_goals (try (first | with_reducible apply ih | (simp only [<- List.map_append]; first | with_reducible apply ih)))
  all_goals (try (first | with_reducible rfl | omega | assumption | exact dT ‹_› | exact dF ‹_› | ((first | refine rowGet ?_ | refine getC ?_ rfl); (first | omega | (simp only [std]; omega) | grind)) | (show (_ : St) = _; rfl) | grind [sz, snocI, snocS, rowSnoc]))
abbrev Z2e (x : Syntax) := (↑(List.length (Array.toList (ByteArray.data (Syntax.text x)))) : Int)
abbrev Z3g (x : Syntax) (left : Int) := (sz (List.length (Syntax.scopes x)) (left - (Z2e x)))
abbrev Z84 (x : Syntax) := (List.length (Syntax.items x) + sumBy wY (Syntax.items x))
theorem Zs2 (x : Syntax) (left : Int) : aexec Tryz.prog (Tryz.f27.body.getD .skip) (entry [] [syntaxA x, li left] 25) [.br [.fin []] [.call
 [Mode.rd, Mode.rd] [] (AV.sv (li (Z3g x left))), .br [.fin []] [.call [Mode.rd, Mode.rd] [] (AV.sv (li (sz (Z84 x) (Z3g x left)))),
 .br [.fin []] [.fin []]]]] (finK Tryz.prog [ResultVar.tmp 4] [] (AV.sv (li (sz (wY x) left)))) = (List.length (Array.toList (ByteArray.data (Syntax.text x))) <=
 9223372036854775807 -> rng .i64 (left - (Z2e x)) /\ (decide (left - (Z2e x) < 0) = true -> ObsEq [] [] /\ AV.sv (li (-1 : Int)) = AV.sv (li (sz (wY x)
 left))) /\ (decide (left - (Z2e x) < 0) = false -> Znu (Syntax.scopes x) (left - (Z2e x)) /\ (decide (sz (List.length (Syntax.scopes x)) (left -
 (Z2e x)) < 0) = true -> ObsEq [] [] /\ AV.sv (li (-1 : Int)) = AV.sv (li (sz (wY x) left))) /\ (decide (sz (List.length (Syntax.scopes x)) (left - (Z2e x)) <
 0) = false -> Z9m (Syntax.items x) (Z3g x left) /\ (decide (sz (Z84 x) (Z3g x left) < 0) = true -> ObsEq [] [] /\ AV.sv (li (-1 : Int)) =
 AV.sv (li (sz (wY x) left))) /\ (decide (sz (Z84 x) (Z3g x left) < 0) = false -> ObsEq [] [] /\ AV.sv (li (sz (Z84 x) (Z3g x left))) =
 AV.sv (li (sz (wY x) left)))))) := by kernel_rfl
theorem Zyk (x : Syntax) (left : Int) (h0 : 0 <= left) (h : left <= 2147483647) (ih : ∀ z ∈ x.items, ∀ (left : Int) (h0 : 0 <= left) (h : left <= 2147483647), Z4p z
 left)  : Z4p x left := by
  refine CallOK.ofRun wide (Zs2 x left) Tryz.call27 Tryz.func27 rfl rfl rfl ?_
  try delta Z2e Z3g Z84
  with_reducible repeat' (first | apply And.intro | exact flatI | exact flatS | exact rowLens | exact ih | (intro; skip) | apply obsN | apply obsC | apply obA | apply obM | apply obB | apply svA | apply tupA | apply lcA | apply lcS | apply svC | apply liC | apply lbC | apply lsC | apply vIc | apply vBc | apply vSc | apply vLc | apply mapC | apply Zfr | apply Zab | apply ih)
  all_goals (try simp only [std] at *)
  all_goals (try (first | with_reducible apply Zfr | with_reducible apply Zab | with_reducible apply ih | (simp only [<- List.map_append]; first | with_reducible apply Zfr | with_reducible apply Zab | with_reducible apply ih)))
  all_goals (try (first | with_reducible rfl | omega | assumption | exact dT ‹_› | exact dF ‹_› | ((first | refine rowGet ?_ | refine getC ?_ rfl); (first | omega | (simp only [std]; omega) | grind)) | (show (_ : St) = _; rfl) | grind [wY_eq, sz, wS, snocI, snocS, rowSnoc]))
theorem Zbv (x : Syntax) : ∀ (left : Int) (h0 : 0 <= left) (h : left <= 2147483647), Z4p x left := Syntax.ind (P := fun x => ∀ (left : Int) (h0 : 0 <= left) (h : left <= 2147483647), Z4p x left) (fun x ih left h0 h => Zyk x left h0 h ih) x
abbrev Zok (x : Binding) (left : Int) : Prop := CallOK Tryz.prog 91 [] [bindingA x, li left] [] (.sv (li (sz (wB x) left)))
abbrev Z27 (x : Binding) := (↑(List.length (Array.toList (ByteArray.data (Binding.text x)))) : Int)
theorem Ztq (x : Binding) (left : Int) : aexec Tryz.prog (Tryz.f91.body.getD .skip) (entry [] [bindingA x, li left] 19) [.br [.fin []] [.call
 [Mode.rd, Mode.rd] [] (AV.sv (li (sz (List.length (Binding.scopes x)) (left - (Z27 x))))), .br [.fin []] [.fin []]]] (finK Tryz.prog [ResultVar.tmp 4] []
 (AV.sv (li (sz (wB x) left)))) = (List.length (Array.toList (ByteArray.data (Binding.text x))) <= 9223372036854775807 -> rng .i64 (left - (Z27 x)) /\ (decide (left
 - (Z27 x) < 0) = true -> ObsEq [] [] /\ AV.sv (li (-1 : Int)) = AV.sv (li (sz (wB x) left))) /\ (decide (left - (Z27 x) < 0) = false -> Znu
 (Binding.scopes x) (left - (Z27 x)) /\ (decide (sz (List.length (Binding.scopes x)) (left - (Z27 x)) < 0) = true -> ObsEq [] [] /\ AV.sv (li (-1 : Int)) = AV.sv
 (li (sz (wB x) left))) /\ (decide (sz (List.length (Binding.scopes x)) (left - (Z27 x)) < 0) = false -> ObsEq [] [] /\ AV.sv (li (sz (List.length (Binding.scopes x)) (left
 - (Z27 x)))) = AV.sv (li (sz (wB x) left))))) := by kernel_rfl
theorem Zac (x : Binding) (left : Int) (h0 : 0 <= left) (h : left <= 2147483647)  : Zok x left := by
  refine CallOK.ofRun wide (Ztq x left) Tryz.call91 Tryz.func91 rfl rfl rfl ?_
  try delta Z27
  with_reducible repeat' (first | apply And.intro | exact flatI | exact flatS | exact rowLens | (intro; skip) | apply obsN | apply obsC | apply obA | apply obM | apply obB | apply svA | apply tupA | apply lcA | apply lcS | apply svC | apply liC | apply lbC | apply lsC | apply vIc | apply vBc | apply vSc | apply vLc | apply mapC | apply Zfr)
  all_goals (try simp only [std] at *)
  all_goals (try (first | with_reducible apply Zfr | (simp only [<- List.map_append]; first | with_reducible apply Zfr)))
  all_goals (try (first | with_reducible rfl | omega | assumption | exact dT ‹_› | exact dF ‹_› | ((first | refine rowGet ?_ | refine getC ?_ rfl); (first | omega | (simp only [std]; omega) | grind)) | (show (_ : St) = _; rfl) | grind [wB_eq, sz, wS, snocI, snocS, rowSnoc]))
abbrev Zn0 (L : List Binding) (left : Int) : Prop := CallOK Tryz.prog 25 [] [ll (L.map bindingC), li left] [] (.sv (li (sz (L.length + sumBy wB L) left)))
def Zap (L : List Binding) (left : Int) (x0 : SV) (x1 : SV) : St := St.mk (regsOf 27 [(0, AV.sv (ll (List.map bindingC L))), (1, AV.sv x1), (5, AV.sv x0)]) [] 0 
def Z1k (L : List Binding) (left : Int) (k : Nat × Int) : St := Zap L left (li (↑(Prod.fst k) : Int)) (li (Prod.snd k)) 
abbrev Z54 (L : List Binding) (left : Int) : Nat -> St -> Prop := Head (Z1k L left) (fun k => Prod.fst k <= List.length L /\ List.length L <= 9223372036854775807 /\
 0 <= Prod.snd k /\ Prod.snd k <= left /\ sz (sumBy wB (List.drop (Prod.fst k) L)) (Prod.snd k) = sz (List.length L + sumBy wB L) left) fun k => List.length L - Prod.fst k 
def Z40 (L : List Binding) (left : Int) (x0 : SV) : St := St.mk (regsOf 27 [(1, AV.sv x0)]) [] 0 
def Z41 (L : List Binding) (left : Int) (x0 : SV) : St := St.mk (regsOf 27 [(4, AV.sv x0)]) [] 0 
def Zez (L : List Binding) (left : Int) : List (Prop × AEx × St) := [(0 <= sz (List.length L + sumBy wB L) left, AEx.exit 0, Z40 L left (li (sz (List.length
 L + sumBy wB L) left))), (sz (List.length L + sumBy wB L) left = (-1 : Int), AEx.ret, Z41 L left (li (-1 : Int)))]

theorem Zl0 {L : List Binding} {left : Int} {k : Nat × Int} {x0 : SV} {x1 : SV} (h0 : x0 = (li (↑(Prod.fst k) : Int))) (h1 : x1 = (li (Prod.snd k))) : Zap L
 left x0 x1 = Z1k L left k := by
  rw [h0, h1]
  rfl
theorem Zi4 {L : List Binding} {left : Int} {x0 y0 : SV} (h0 : x0 = y0) : Z40 L left x0 = Z40 L left y0 := by rw [h0]
theorem Zi5 {L : List Binding} {left : Int} {x0 y0 : SV} (h0 : x0 = y0) : Z41 L left x0 = Z41 L left y0 := by rw [h0]
theorem Zq6 (L : List Binding) (left : Int) (k : Nat × Int) : aexec Tryz.prog (loopAt Tryz.f25 0) (Z1k L left k) [.br [.cells (bindingF (List.getD
 L (Prod.fst k) default)), .call [Mode.rd, Mode.rd] [] (AV.sv (li (sz (wB (List.getD L (Prod.fst k) default)) (Prod.snd k)))), .br [.ghost (.sel [] [4]), .out 1]
 [.ghost (.sel [] [0, 1, 5]), .goto (List.length L - (Prod.fst k + 1)) (Z1k L left (Prod.fst k + 1, sz (wB (List.getD L (Prod.fst k) default)) (Prod.snd
 k)))]] [.ghost (.sel [] [1]), .out 0]] (loopK (Z54 L left) (Zez L left) (List.length L - Prod.fst k)) = (List.length (List.map bindingC L) <=
 9223372036854775807 -> (decide ((↑(Prod.fst k) : Int) < (↑(List.length (List.map bindingC L)) : Int)) = true -> (0 <= (↑(Prod.fst k) : Int) /\ (List.map bindingC L)[Int.toNat
 (↑(Prod.fst k) : Int)]? = some (bindingF (List.getD L (Prod.fst k) default))) /\ Zok (List.getD L (Prod.fst k) default) (Prod.snd k) /\ (decide (sz (wB (List.getD L
 (Prod.fst k) default)) (Prod.snd k) < 0) = true -> sz (List.length L + sumBy wB L) left = (-1 : Int) /\ Z41 L left (li (-1 : Int)) = Z41 L left (li (-1 :
 Int))) /\ (decide (sz (wB (List.getD L (Prod.fst k) default)) (Prod.snd k) < 0) = false -> rng .i64 ((↑(Prod.fst k) : Int) + 1) /\ List.length L - (Prod.fst k + 1) <
 List.length L - Prod.fst k /\ Zap L left (li ((↑(Prod.fst k) : Int) + 1)) (li (sz (wB (List.getD L (Prod.fst k) default)) (Prod.snd k))) = Z1k L left
 (Prod.fst k + 1, sz (wB (List.getD L (Prod.fst k) default)) (Prod.snd k)) /\ Z54 L left (List.length L - (Prod.fst k + 1)) (Z1k L left (Prod.fst k + 1, sz
 (wB (List.getD L (Prod.fst k) default)) (Prod.snd k))))) /\ (decide ((↑(Prod.fst k) : Int) < (↑(List.length (List.map bindingC L)) : Int)) = false -> 0 <= sz (List.length L + sumBy
 wB L) left /\ Z40 L left (li (Prod.snd k)) = Z40 L left (li (sz (List.length L + sumBy wB L) left)))) := by kernel_rfl
theorem Ztr (L : List Binding) (left : Int) (h0 : 0 <= left) (h : left <= 2147483647)  : LoopSem Tryz.prog (loopAt Tryz.f25 0) (Z54 L left) (Zez L
 left) := by
  refine LoopSem.ofHead wide fun k h => ⟨_, _, Zq6 L left k, ?_⟩
  obtain ⟨i, n⟩ := k
  simp only at *
  with_reducible repeat' (first | apply And.intro | exact flatI | exact flatS | exact rowLens | (intro; skip) | apply obsN | apply obsC | apply obA | apply obM | apply obB | apply svA | apply tupA | apply lcA | apply lcS | apply svC | apply liC | apply lbC | apply lsC | apply vIc | apply vBc | apply vSc | apply vLc | apply mapC | apply hdI | apply Zl0 | apply Zi4 | apply Zi5 | apply Zac)
  all_goals (try simp only [std] at *)
  all_goals (try (first | with_reducible apply Zac | (simp only [<- List.map_append]; first | with_reducible apply Zac)))
  all_goals (try (first | with_reducible rfl | omega | assumption | exact dT ‹_› | exact dF ‹_› | ((first | refine rowGet ?_ | refine getC ?_ rfl); (first | omega | (simp only [std]; omega) | grind)) | (show (_ : St) = _; rfl) | grind [drop_get, sumBy, sz, getD_mem', snocI, snocS, rowSnoc]))
theorem Zs3 (L : List Binding) (left : Int) : aexec Tryz.prog (Tryz.f25.body.getD .skip) (entry [] [ll (List.map bindingC L), li left] 27) [.br
 [.fin []] [.ghost (.sel [] [0, 1, 5]), .loop (List.length L - 0) (Z1k L left (0, left - (↑(List.length L) : Int))) (Z54 L left) [(0 <= sz
 (List.length L + sumBy wB L) left, AEx.exit 0, Z40 L left (li (sz (List.length L + sumBy wB L) left)), [.fin []]), (sz (List.length L + sumBy wB L) left = (-1 :
 Int), AEx.ret, Z41 L left (li (-1 : Int)), [.fin []])]]] (finK Tryz.prog [ResultVar.tmp 4] [] (AV.sv (li (sz (List.length L + sumBy wB L) left)))) = (List.length
 (List.map bindingC L) <= 9223372036854775807 -> rng .i64 (left - (↑(List.length (List.map bindingC L)) : Int)) /\ (decide (left - (↑(List.length (List.map bindingC L)) : Int)
 < 0) = true -> ObsEq [] [] /\ AV.sv (li (-1 : Int)) = AV.sv (li (sz (List.length L + sumBy wB L) left))) /\ (decide (left - (↑(List.length (List.map bindingC L)) : Int) < 0) = false
 -> Zap L left (li 0) (li (left - (↑(List.length (List.map bindingC L)) : Int))) = Z1k L left (0, left - (↑(List.length L) : Int)) /\ Z54 L left
 (List.length L - 0) (Z1k L left (0, left - (↑(List.length L) : Int))) /\ LoopSem Tryz.prog (loopAt Tryz.f25 0) (Z54 L left) (Zez L left) /\
 (Int.NonNeg (sz (List.length L + sumBy wB L) left - 0) -> ObsEq [] [] /\ AV.sv (li (sz (List.length L + sumBy wB L) left)) = AV.sv (li (sz (List.length L + sumBy wB L) left))) /\ (sz
 (List.length L + sumBy wB L) left = (-1 : Int) -> ObsEq [] [] /\ AV.sv (li (-1 : Int)) = AV.sv (li (sz (List.length L + sumBy wB L) left))) /\ True)) := by kernel_rfl
theorem Zk3 (L : List Binding) (left : Int) (h0 : 0 <= left) (h : left <= 2147483647)  : Zn0 L left := by
  refine CallOK.ofRun wide (Zs3 L left) Tryz.call25 Tryz.func25 rfl rfl rfl ?_
  with_reducible repeat' (first | apply And.intro | exact flatI | exact flatS | exact rowLens | (intro; skip) | apply obsN | apply obsC | apply obA | apply obM | apply obB | apply svA | apply tupA | apply lcA | apply lcS | apply svC | apply liC | apply lbC | apply lsC | apply vIc | apply vBc | apply vSc | apply vLc | apply mapC | apply hdI | apply Zl0 | apply Ztr | apply Zi4 | apply Zi5 | apply Zac)
  all_goals (try simp only [std] at *)
  all_goals (try (first | with_reducible apply Zac | (simp only [<- List.map_append]; first | with_reducible apply Zac)))
  all_goals (try (first | with_reducible rfl | omega | assumption | exact dT ‹_› | exact dF ‹_› | ((first | refine rowGet ?_ | refine getC ?_ rfl); (first | omega | (simp only [std]; omega) | grind)) | (show (_ : St) = _; rfl) | grind [sz, snocI, snocS, rowSnoc]))
abbrev Zr6 (x : Rules) (left : Int) : Prop := CallOK Tryz.prog 53 [] [rulesA x, li left] [] (.sv (li (sz (wR x) left)))
abbrev Z4q (x : Rules) := (List.length (Rules.literals x) + sumBy wY (Rules.literals x))
abbrev Z6z (x : Rules) (left : Int) := (sz (List.length (Rules.patterns x) + sumBy wY (Rules.patterns x)) (sz (Z4q x) left))
abbrev Zb4 (x : Rules) := (List.length (Rules.templates x) + sumBy wY (Rules.templates x))
theorem Zwr (x : Rules) (left : Int) : aexec Tryz.prog (Tryz.f53.body.getD .skip) (entry [] [rulesA x, li left] 24) [.call [Mode.rd, Mode.rd] []
 (AV.sv (li (sz (Z4q x) left))), .br [.fin []] [.call [Mode.rd, Mode.rd] [] (AV.sv (li (Z6z x left))), .br [.fin []] [.call [Mode.rd, Mode.rd]
 [] (AV.sv (li (sz (Zb4 x) (Z6z x left)))), .br [.fin []] [.fin []]]]] (finK Tryz.prog [ResultVar.tmp 4] [] (AV.sv (li (sz (wR x) left)))) =
 (Z9m (Rules.literals x) left /\ (decide (sz (Z4q x) left < 0) = true -> ObsEq [] [] /\ AV.sv (li (-1 : Int)) = AV.sv (li (sz (wR x) left))) /\ (decide (sz
 (Z4q x) left < 0) = false -> Z9m (Rules.patterns x) (sz (Z4q x) left) /\ (decide (sz (List.length (Rules.patterns x) + sumBy wY (Rules.patterns x)) (sz
 (Z4q x) left) < 0) = true -> ObsEq [] [] /\ AV.sv (li (-1 : Int)) = AV.sv (li (sz (wR x) left))) /\ (decide (sz (List.length (Rules.patterns x) + sumBy wY (Rules.patterns
 x)) (sz (Z4q x) left) < 0) = false -> Z9m (Rules.templates x) (Z6z x left) /\ (decide (sz (Zb4 x) (Z6z x left) < 0) = true -> ObsEq []
 [] /\ AV.sv (li (-1 : Int)) = AV.sv (li (sz (wR x) left))) /\ (decide (sz (Zb4 x) (Z6z x left) < 0) = false -> ObsEq [] [] /\ AV.sv (li (sz (Zb4 x)
 (Z6z x left))) = AV.sv (li (sz (wR x) left)))))) := by kernel_rfl
theorem Zdm (x : Rules) (left : Int) (h0 : 0 <= left) (h : left <= 2147483647)  : Zr6 x left := by
  refine CallOK.ofRun wide (Zwr x left) Tryz.call53 Tryz.func53 rfl rfl rfl ?_
  try delta Z4q Z6z Zb4
  with_reducible repeat' (first | apply And.intro | exact flatI | exact flatS | exact rowLens | (intro; skip) | apply obsN | apply obsC | apply obA | apply obM | apply obB | apply svA | apply tupA | apply lcA | apply lcS | apply svC | apply liC | apply lbC | apply lsC | apply vIc | apply vBc | apply vSc | apply vLc | apply mapC | apply Zab | apply Zbv)
  all_goals (try simp only [std] at *)
  all_goals (try (first | with_reducible apply Zab | with_reducible apply Zbv | (simp only [<- List.map_append]; first | with_reducible apply Zab | with_reducible apply Zbv)))
  all_goals (try (first | with_reducible rfl | omega | assumption | exact dT ‹_› | exact dF ‹_› | ((first | refine rowGet ?_ | refine getC ?_ rfl); (first | omega | (simp only [std]; omega) | grind)) | (show (_ : St) = _; rfl) | grind [wR_eq, sz, wS, snocI, snocS, rowSnoc]))
abbrev Zq7 (L : List Rules) (left : Int) : Prop := CallOK Tryz.prog 81 [] [ll (L.map rulesC), li left] [] (.sv (li (sz (L.length + sumBy wR L) left)))
def Zd3 (L : List Rules) (left : Int) (x0 : SV) (x1 : SV) : St := St.mk (regsOf 27 [(0, AV.sv (ll (List.map rulesC L))), (1, AV.sv x1), (5, AV.sv x0)]) [] 0 
def Z2v (L : List Rules) (left : Int) (k : Nat × Int) : St := Zd3 L left (li (↑(Prod.fst k) : Int)) (li (Prod.snd k)) 
abbrev Z7i (L : List Rules) (left : Int) : Nat -> St -> Prop := Head (Z2v L left) (fun k => Prod.fst k <= List.length L /\ List.length L <= 9223372036854775807 /\ 0 <=
 Prod.snd k /\ Prod.snd k <= left /\ sz (sumBy wR (List.drop (Prod.fst k) L)) (Prod.snd k) = sz (List.length L + sumBy wR L) left) fun k => List.length L - Prod.fst k 
def Z6k (L : List Rules) (left : Int) (x0 : SV) : St := St.mk (regsOf 27 [(1, AV.sv x0)]) [] 0 
def Z6l (L : List Rules) (left : Int) (x0 : SV) : St := St.mk (regsOf 27 [(4, AV.sv x0)]) [] 0 
def Zhv (L : List Rules) (left : Int) : List (Prop × AEx × St) := [(0 <= sz (List.length L + sumBy wR L) left, AEx.exit 0, Z6k L left (li (sz (List.length L +
 sumBy wR L) left))), (sz (List.length L + sumBy wR L) left = (-1 : Int), AEx.ret, Z6l L left (li (-1 : Int)))]

theorem Zol {L : List Rules} {left : Int} {k : Nat × Int} {x0 : SV} {x1 : SV} (h0 : x0 = (li (↑(Prod.fst k) : Int))) (h1 : x1 = (li (Prod.snd k))) : Zd3 L left
 x0 x1 = Z2v L left k := by
  rw [h0, h1]
  rfl
theorem Zl1 {L : List Rules} {left : Int} {x0 y0 : SV} (h0 : x0 = y0) : Z6k L left x0 = Z6k L left y0 := by rw [h0]
theorem Zl2 {L : List Rules} {left : Int} {x0 y0 : SV} (h0 : x0 = y0) : Z6l L left x0 = Z6l L left y0 := by rw [h0]
abbrev Zo (L : List Rules) (k : Nat × Int) := (List.getD L (Prod.fst k) default)
theorem Zs4 (L : List Rules) (left : Int) (k : Nat × Int) : aexec Tryz.prog (loopAt Tryz.f81 0) (Z2v L left k) [.br [.cells (rulesF (Zo L
 k)), .call [Mode.rd, Mode.rd] [] (AV.sv (li (sz (wR (Zo L k)) (Prod.snd k)))), .br [.ghost (.sel [] [4]), .out 1] [.ghost (.sel [] [0, 1,
 5]), .goto (List.length L - (Prod.fst k + 1)) (Z2v L left (Prod.fst k + 1, sz (wR (Zo L k)) (Prod.snd k)))]] [.ghost (.sel [] [1]), .out 0]]
 (loopK (Z7i L left) (Zhv L left) (List.length L - Prod.fst k)) = (List.length (List.map rulesC L) <= 9223372036854775807 -> (decide ((↑(Prod.fst k) : Int) <
 (↑(List.length (List.map rulesC L)) : Int)) = true -> (0 <= (↑(Prod.fst k) : Int) /\ (List.map rulesC L)[Int.toNat (↑(Prod.fst k) : Int)]? = some (rulesF (Zo L k))) /\
 Zr6 (Zo L k) (Prod.snd k) /\ (decide (sz (wR (Zo L k)) (Prod.snd k) < 0) = true -> sz (List.length L + sumBy wR L) left = (-1 : Int) /\
 Z6l L left (li (-1 : Int)) = Z6l L left (li (-1 : Int))) /\ (decide (sz (wR (Zo L k)) (Prod.snd k) < 0) = false -> rng .i64 ((↑(Prod.fst k)
 : Int) + 1) /\ List.length L - (Prod.fst k + 1) < List.length L - Prod.fst k /\ Zd3 L left (li ((↑(Prod.fst k) : Int) + 1)) (li (sz (wR (Zo L k)) (Prod.snd
 k))) = Z2v L left (Prod.fst k + 1, sz (wR (Zo L k)) (Prod.snd k)) /\ Z7i L left (List.length L - (Prod.fst k + 1)) (Z2v L left (Prod.fst
 k + 1, sz (wR (Zo L k)) (Prod.snd k))))) /\ (decide ((↑(Prod.fst k) : Int) < (↑(List.length (List.map rulesC L)) : Int)) = false -> 0 <= sz (List.length L + sumBy wR L)
 left /\ Z6k L left (li (Prod.snd k)) = Z6k L left (li (sz (List.length L + sumBy wR L) left)))) := by kernel_rfl
theorem Zws (L : List Rules) (left : Int) (h0 : 0 <= left) (h : left <= 2147483647)  : LoopSem Tryz.prog (loopAt Tryz.f81 0) (Z7i L left) (Zhv L left)
 := by
  refine LoopSem.ofHead wide fun k h => ⟨_, _, Zs4 L left k, ?_⟩
  try delta Zo
  obtain ⟨i, n⟩ := k
  simp only at *
  with_reducible repeat' (first | apply And.intro | exact flatI | exact flatS | exact rowLens | (intro; skip) | apply obsN | apply obsC | apply obA | apply obM | apply obB | apply svA | apply tupA | apply lcA | apply lcS | apply svC | apply liC | apply lbC | apply lsC | apply vIc | apply vBc | apply vSc | apply vLc | apply mapC | apply hdI | apply Zol | apply Zl1 | apply Zl2 | apply Zdm)
  all_goals (try simp only [std] at *)
  all_goals (try (first | with_reducible apply Zdm | (simp only [<- List.map_append]; first | with_reducible apply Zdm)))
  all_goals (try (first | with_reducible rfl | omega | assumption | exact dT ‹_› | exact dF ‹_› | ((first | refine rowGet ?_ | refine getC ?_ rfl); (first | omega | (simp only [std]; omega) | grind)) | (show (_ : St) = _; rfl) | grind [drop_get, sumBy, sz, getD_mem', snocI, snocS, rowSnoc]))
abbrev Z5p (L : List Rules) (left : Int) := (li (sz (List.length L + sumBy wR L) left))
theorem Zv4 (L : List Rules) (left : Int) : aexec Tryz.prog (Tryz.f81.body.getD .skip) (entry [] [ll (List.map rulesC L), li left] 27) [.br [.fin
 []] [.ghost (.sel [] [0, 1, 5]), .loop (List.length L - 0) (Z2v L left (0, left - (↑(List.length L) : Int))) (Z7i L left) [(0 <= sz (List.length L +
 sumBy wR L) left, AEx.exit 0, Z6k L left (Z5p L left), [.fin []]), (sz (List.length L + sumBy wR L) left = (-1 : Int), AEx.ret, Z6l L left (li
 (-1 : Int)), [.fin []])]]] (finK Tryz.prog [ResultVar.tmp 4] [] (AV.sv (Z5p L left))) = (List.length (List.map rulesC L) <= 9223372036854775807 -> rng .i64 (left
 - (↑(List.length (List.map rulesC L)) : Int)) /\ (decide (left - (↑(List.length (List.map rulesC L)) : Int) < 0) = true -> ObsEq [] [] /\ AV.sv (li (-1 : Int)) = AV.sv (Z5p
 L left)) /\ (decide (left - (↑(List.length (List.map rulesC L)) : Int) < 0) = false -> Zd3 L left (li 0) (li (left - (↑(List.length (List.map rulesC L)) : Int))) =
 Z2v L left (0, left - (↑(List.length L) : Int)) /\ Z7i L left (List.length L - 0) (Z2v L left (0, left - (↑(List.length L) : Int))) /\ LoopSem
 Tryz.prog (loopAt Tryz.f81 0) (Z7i L left) (Zhv L left) /\ (Int.NonNeg (sz (List.length L + sumBy wR L) left - 0) -> ObsEq [] [] /\ AV.sv (Z5p L left) =
 AV.sv (Z5p L left)) /\ (sz (List.length L + sumBy wR L) left = (-1 : Int) -> ObsEq [] [] /\ AV.sv (li (-1 : Int)) = AV.sv (Z5p L left)) /\ True)) := by kernel_rfl
theorem Znv (L : List Rules) (left : Int) (h0 : 0 <= left) (h : left <= 2147483647)  : Zq7 L left := by
  refine CallOK.ofRun wide (Zv4 L left) Tryz.call81 Tryz.func81 rfl rfl rfl ?_
  try delta Z5p
  with_reducible repeat' (first | apply And.intro | exact flatI | exact flatS | exact rowLens | (intro; skip) | apply obsN | apply obsC | apply obA | apply obM | apply obB | apply svA | apply tupA | apply lcA | apply lcS | apply svC | apply liC | apply lbC | apply lsC | apply vIc | apply vBc | apply vSc | apply vLc | apply mapC | apply hdI | apply Zol | apply Zws | apply Zl1 | apply Zl2 | apply Zdm)
  all_goals (try simp only [std] at *)
  all_goals (try (first | with_reducible apply Zdm | (simp only [<- List.map_append]; first | with_reducible apply Zdm)))
  all_goals (try (first | with_reducible rfl | omega | assumption | exact dT ‹_› | exact dF ‹_› | ((first | refine rowGet ?_ | refine getC ?_ rfl); (first | omega | (simp only [std]; omega) | grind)) | (show (_ : St) = _; rfl) | grind [sz, snocI, snocS, rowSnoc]))
abbrev Zn1 (x : Expander) (left : Int) : Prop := CallOK Tryz.prog 20 [] [expanderA x, li left] [] (.sv (li (sz (wX x) left)))
abbrev Z1l (x : Expander) := (List.length (Expander.bindings x) + sumBy wB (Expander.bindings x))
abbrev Z85 (x : Expander) := (List.length (Expander.macros x) + sumBy wR (Expander.macros x))
theorem Zs5 (x : Expander) (left : Int) : aexec Tryz.prog (Tryz.f20.body.getD .skip) (entry [] [expanderA x, li left] 18) [.call [Mode.rd,
 Mode.rd] [] (AV.sv (li (sz (Z1l x) left))), .br [.fin []] [.call [Mode.rd, Mode.rd] [] (AV.sv (li (sz (Z85 x) (sz (Z1l x) left)))),
 .br [.fin []] [.fin []]]] (finK Tryz.prog [ResultVar.tmp 4] [] (AV.sv (li (sz (wX x) left)))) = (Zn0 (Expander.bindings x) left /\ (decide (sz (Z1l
 x) left < 0) = true -> ObsEq [] [] /\ AV.sv (li (-1 : Int)) = AV.sv (li (sz (wX x) left))) /\ (decide (sz (Z1l x) left < 0) = false -> Zq7 (Expander.macros x) (sz
 (Z1l x) left) /\ (decide (sz (Z85 x) (sz (Z1l x) left) < 0) = true -> ObsEq [] [] /\ AV.sv (li (-1 : Int)) = AV.sv (li (sz (wX x) left))) /\
 (decide (sz (Z85 x) (sz (Z1l x) left) < 0) = false -> ObsEq [] [] /\ AV.sv (li (sz (Z85 x) (sz (Z1l x) left))) = AV.sv (li (sz (wX x)
 left))))) := by kernel_rfl
theorem Zk4 (x : Expander) (left : Int) (h0 : 0 <= left) (h : left <= 2147483647)  : Zn1 x left := by
  refine CallOK.ofRun wide (Zs5 x left) Tryz.call20 Tryz.func20 rfl rfl rfl ?_
  try delta Z1l Z85
  with_reducible repeat' (first | apply And.intro | exact flatI | exact flatS | exact rowLens | (intro; skip) | apply obsN | apply obsC | apply obA | apply obM | apply obB | apply svA | apply tupA | apply lcA | apply lcS | apply svC | apply liC | apply lbC | apply lsC | apply vIc | apply vBc | apply vSc | apply vLc | apply mapC | apply Zk3 | apply Znv)
  all_goals (try simp only [std] at *)
  all_goals (try (first | with_reducible apply Zk3 | with_reducible apply Znv | (simp only [<- List.map_append]; first | with_reducible apply Zk3 | with_reducible apply Znv)))
  all_goals (try (first | with_reducible rfl | omega | assumption | exact dT ‹_› | exact dF ‹_› | ((first | refine rowGet ?_ | refine getC ?_ rfl); (first | omega | (simp only [std]; omega) | grind)) | (show (_ : St) = _; rfl) | grind [wX_eq, sz, wS, snocI, snocS, rowSnoc]))
end Go.Proofs.YtegbadciefljcaaGreat
end
section
namespace Go.Proofs.YtegbadciefljcaaGreat
open Go Go.Proofs.YtegbadciefljcaaGreat.Ab
set_option linter.unusedVariables false
set_option linter.unusedSimpArgs false
set_option maxHeartbeats 4000000
abbrev Znw (L : List Int) : Prop := CallOK Tryz.prog 97 [] [ll (L.map intC)] [.arr true 1 (L.map intC)] (.sv (.one (.ref 0)))
def Zgx (L : List Int) (x0 : SV) (x1 : Ob) : St := St.mk (regsOf 22 [(0, AV.sv (ll (List.map intC L))), (3, AV.sv (SV.one (AC.ref 0))), (4, AV.sv x0)]) [x1] 0 
def Z4i (L : List Int) (k : Nat) : St := Zgx L (li (k : Int)) (Ob.arr true 1 (List.map intC (fillTo L k))) 
abbrev Zad (L : List Int) : Nat -> St -> Prop := Head (Z4i L) (fun k => k <= List.length L /\ List.length L <= 9223372036854775807) fun k => List.length L - k 
def Z96 (L : List Int) (x0 : Ob) : St := St.mk (regsOf 22 [(3, AV.sv (SV.one (AC.ref 0)))]) [x0] 0 
def Zm2 (L : List Int) : List (Prop × AEx × St) := [(True, AEx.exit 0, Z96 L (Ob.arr true 1 (List.map intC L)))]

theorem Zr7 {L : List Int} {k : Nat} {x0 : SV} {x1 : Ob} (h0 : x0 = (li (k : Int))) (h1 : x1 = (Ob.arr true 1 (List.map intC (fillTo L k)))) : Zgx L x0 x1 =
 Z4i L k := by
  rw [h0, h1]
  rfl
theorem Zom {L : List Int} {x0 y0 : Ob} (h0 : x0 = y0) : Z96 L x0 = Z96 L y0 := by rw [h0]
theorem Zv5 (L : List Int) (k : Nat) : aexec Tryz.prog (loopAt Tryz.f97 0) (Z4i L k) [.br [.cells (intC (List.getD L k default)), .cells (intC
 (List.getD (fillTo L k) (Int.toNat (k : Int)) default)), .ghost (.sel [0] [0, 3, 4]), .goto (List.length L - (k + 1)) (Z4i L (k + 1))] [.ghost (.sel
 [0] [3]), .out 0]] (loopK (Zad L) (Zm2 L) (List.length L - k)) = (List.length (List.map intC L) <= 9223372036854775807 -> (decide ((k : Int) < (↑(List.length
 (List.map intC L)) : Int)) = true -> (0 <= (k : Int) /\ (List.map intC L)[Int.toNat (k : Int)]? = some [cI (List.getD L k 0)]) /\ (0 <= (k : Int) /\ Int.toNat (k : Int) <
 List.length (List.map intC (fillTo L k))) /\ (List.map intC (fillTo L k))[Int.toNat (k : Int)]? = some [cI (List.getD (fillTo L k) (Int.toNat (k : Int)) 0)] /\ rng .i64
 ((k : Int) + 1) /\ List.length L - (k + 1) < List.length L - k /\ Zgx L (li ((k : Int) + 1)) (Ob.arr true 1 (List.set (List.map intC (fillTo L k)) (Int.toNat (k : Int))
 [cI (List.getD L k 0)])) = Z4i L (k + 1) /\ Zad L (List.length L - (k + 1)) (Z4i L (k + 1))) /\ (decide ((k : Int) < (↑(List.length (List.map intC L)) :
 Int)) = false -> True /\ Z96 L (Ob.arr true 1 (List.map intC (fillTo L k))) = Z96 L (Ob.arr true 1 (List.map intC L)))) := by kernel_rfl
theorem Zzy (L : List Int) (h : List.length L <= 1048576)  : LoopSem Tryz.prog (loopAt Tryz.f97 0) (Zad L) (Zm2 L) := by
  refine LoopSem.ofHead wide fun k h => ⟨_, _, Zv5 L k, ?_⟩
  with_reducible repeat' (first | apply And.intro | exact flatI | exact flatS | exact rowLens | (intro; skip) | apply obsN | apply obsC | apply obA | apply obM | apply obB | apply svA | apply tupA | apply lcA | apply lcS | apply svC | apply liC | apply lbC | apply lsC | apply vIc | apply vBc | apply vSc | apply vLc | apply mapC | apply hdI | apply Zr7 | apply Zom)
  all_goals (try simp only [std] at *)
  all_goals (try (first | with_reducible rfl | omega | assumption | exact dT ‹_› | exact dF ‹_› | ((first | refine rowGet ?_ | refine getC ?_ rfl); (first | omega | (simp only [std]; omega) | grind)) | (refine fill_step ?_ ?_; (first | omega | (simp only [std]; omega) | grind); (first | rfl | exact (Row.eq _).trans rfl)) | (refine fill_init ?_; (first | rfl | exact (Row.eq _).trans rfl)) | (show (_ : St) = _; rfl) | grind [fillTo_all, snocI, snocS, rowSnoc]))
theorem Zyl (L : List Int) : aexec Tryz.prog (Tryz.f97.body.getD .skip) (entry [] [ll (List.map intC L)] 22) [.ghost (.sel [0] [0, 3, 4]),
 .loop (List.length L - 0) (Z4i L 0) (Zad L) [(True, AEx.exit 0, Z96 L (Ob.arr true 1 (List.map intC L)), [.fin [0]])]] (finK Tryz.prog
 [ResultVar.tmp 2] [Ob.arr true 1 (List.map intC L)] (AV.sv (SV.one (AC.ref 0)))) = (List.length (List.map intC L) <= 9223372036854775807 -> (0 <= (↑(List.length (List.map intC L)) :
 Int) /\ 8 * Int.toNat (↑(List.length (List.map intC L)) : Int) <= 281474976710656) /\ Zgx L (li 0) (Ob.arr true 1 (List.replicate (Int.toNat (↑(List.length (List.map intC L))
 : Int)) [cI 0])) = Z4i L 0 /\ Zad L (List.length L - 0) (Z4i L 0) /\ LoopSem Tryz.prog (loopAt Tryz.f97 0) (Zad L) (Zm2 L) /\ (True -> ObsEq
 [Ob.arr true 1 (List.map intC L)] [Ob.arr true 1 (List.map intC L)] /\ AV.sv (SV.one (AC.ref 0)) = AV.sv (SV.one (AC.ref 0))) /\ True) := by kernel_rfl
theorem Zft (L : List Int) (h : L.length <= 1048576)  : Znw L := by
  refine CallOK.ofRun wide (Zyl L) Tryz.call97 Tryz.func97 rfl rfl rfl ?_
  with_reducible repeat' (first | apply And.intro | exact flatI | exact flatS | exact rowLens | (intro; skip) | apply obsN | apply obsC | apply obA | apply obM | apply obB | apply svA | apply tupA | apply lcA | apply lcS | apply svC | apply liC | apply lbC | apply lsC | apply vIc | apply vBc | apply vSc | apply vLc | apply mapC | apply hdI | apply Zr7 | apply Zzy | apply Zom)
  all_goals (try simp only [std] at *)
  all_goals (try (first | with_reducible rfl | omega | assumption | exact dT ‹_› | exact dF ‹_› | ((first | refine rowGet ?_ | refine getC ?_ rfl); (first | omega | (simp only [std]; omega) | grind)) | (refine fill_step ?_ ?_; (first | omega | (simp only [std]; omega) | grind); (first | rfl | exact (Row.eq _).trans rfl)) | (refine fill_init ?_; (first | rfl | exact (Row.eq _).trans rfl)) | (show (_ : St) = _; rfl) | grind [snocI, snocS, rowSnoc]))
abbrev Z9n (L : List Syntax) : Prop := CallOK Tryz.prog 30 [] [ll (L.map syntaxC)] [.arr true 5 (L.map syntaxC)] (.sv (.one (.ref 0)))
abbrev Z1s (x : Syntax) : Prop := CallOK Tryz.prog 31 [] [syntaxA x] (syntaxO x) (.sv (syntaxR x 0))
def Zbw (L : List Syntax) (x0 : SV) (x1 : Ob) : St := St.mk (regsOf 23 [(0, AV.sv (ll (List.map syntaxC L))), (3, AV.sv (SV.one (AC.ref 0))), (4, AV.sv x0)]) [x1] 0 
def Z28 (L : List Syntax) (k : Nat) : St := Zbw L (li (k : Int)) (Ob.arr true 5 (List.map syntaxC (fillTo L k))) 
abbrev Z6m (L : List Syntax) : Nat -> St -> Prop := Head (Z28 L) (fun k => k <= List.length L /\ List.length L <= 9223372036854775807) fun k => List.length L - k 
def Z55 (L : List Syntax) (x0 : Ob) : St := St.mk (regsOf 23 [(3, AV.sv (SV.one (AC.ref 0)))]) [x0] 0 
def Zfu (L : List Syntax) : List (Prop × AEx × St) := [(True, AEx.exit 0, Z55 L (Ob.arr true 5 (List.map syntaxC L)))]

theorem Zn2 {L : List Syntax} {k : Nat} {x0 : SV} {x1 : Ob} (h0 : x0 = (li (k : Int))) (h1 : x1 = (Ob.arr true 5 (List.map syntaxC (fillTo L k)))) : Zbw L x0
 x1 = Z28 L k := by
  rw [h0, h1]
  rfl
theorem Zk5 {L : List Syntax} {x0 y0 : Ob} (h0 : x0 = y0) : Z55 L x0 = Z55 L y0 := by rw [h0]
theorem Zqk (L : List Syntax) (k : Nat) : aexec Tryz.prog (loopAt Tryz.f30 0) (Z28 L k) [.br [.cells (syntaxF (List.getD L k default)), .call
 [Mode.rd] (syntaxO (List.getD L k default)) (AV.sv (syntaxR (List.getD L k default) 0)), .cells (syntaxF (List.getD (fillTo L k) (Int.toNat (k : Int)) default)), .ghost
 (.sel [0] [0, 3, 4]), .goto (List.length L - (k + 1)) (Z28 L (k + 1))] [.ghost (.sel [0] [3]), .out 0]] (loopK (Z6m L) (Zfu L)
 (List.length L - k)) = (List.length (List.map syntaxC L) <= 9223372036854775807 -> (decide ((k : Int) < (↑(List.length (List.map syntaxC L)) : Int)) = true -> (0 <= (k : Int) /\
 (List.map syntaxC L)[Int.toNat (k : Int)]? = some (syntaxF (List.getD L k default))) /\ Z1s (List.getD L k default) /\ (0 <= (k : Int) /\ Int.toNat (k : Int) < List.length
 (List.map syntaxC (fillTo L k))) /\ (List.map syntaxC (fillTo L k))[Int.toNat (k : Int)]? = some (syntaxF (List.getD (fillTo L k) (Int.toNat (k : Int)) default)) /\ rng
 IntKind.i64 ((k : Int) + 1) /\ List.length L - (k + 1) < List.length L - k /\ Zbw L (li ((k : Int) + 1)) (Ob.arr true 5 (List.set (List.map syntaxC (fillTo L k))
 (Int.toNat (k : Int)) (syntaxF (List.getD L k default)))) = Z28 L (k + 1) /\ Z6m L (List.length L - (k + 1)) (Z28 L (k + 1))) /\ (decide ((↑k :
 Int) < (↑(List.length (List.map syntaxC L)) : Int)) = false -> True /\ Z55 L (Ob.arr true 5 (List.map syntaxC (fillTo L k))) = Z55 L (Ob.arr true 5 (List.map
 syntaxC L)))) := by kernel_rfl
theorem Zv6 (L : List Syntax) (h : List.length L + sumBy wY L <= 1048576) (ih : ∀ (x : Syntax), x ∈ L -> wY x <= 1048576 -> Z1s x)  : LoopSem Tryz.prog (loopAt
 Tryz.f30 0) (Z6m L) (Zfu L) := by
  refine LoopSem.ofHead wide fun k h => ⟨_, _, Zqk L k, ?_⟩
  with_reducible repeat' (first | apply And.intro | exact flatI | exact flatS | exact rowLens | exact ih | (intro; skip) | apply obsN | apply obsC | apply obA | apply obM | apply obB | apply svA | apply tupA | apply lcA | apply lcS | apply svC | apply liC | apply lbC | apply lsC | apply vIc | apply vBc | apply vSc | apply vLc | apply mapC | apply hdI | apply Zn2 | apply Zk5 | apply ih)
  all_goals (try simp only [std] at *)
  all_goals (try (first | with_reducible apply ih | (simp only [<- List.map_append]; first | with_reducible apply ih)))
  all_goals (try (first | with_reducible rfl | omega | assumption | exact dT ‹_› | exact dF ‹_› | ((first | refine rowGet ?_ | refine getC ?_ rfl); (first | omega | (simp only [std]; omega) | grind)) | (refine fill_step ?_ ?_; (first | omega | (simp only [std]; omega) | grind); (first | rfl | exact (Row.eq _).trans rfl)) | (refine fill_init ?_; (first | rfl | exact (Row.eq _).trans rfl)) | (show (_ : St) = _; rfl) | grind [fillTo_all, getD_mem', sumBy_mem, snocI, snocS, rowSnoc]))
theorem Zts (L : List Syntax) : aexec Tryz.prog (Tryz.f30.body.getD .skip) (entry [] [ll (List.map syntaxC L)] 23) [.ghost (.sel [0] [0, 3,
 4]), .loop (List.length L - 0) (Z28 L 0) (Z6m L) [(True, AEx.exit 0, Z55 L (Ob.arr true 5 (List.map syntaxC L)), [.fin [0]])]] (finK
 Tryz.prog [ResultVar.tmp 2] [Ob.arr true 5 (List.map syntaxC L)] (AV.sv (SV.one (AC.ref 0)))) = (List.length (List.map syntaxC L) <= 9223372036854775807 -> (0 <= (↑(List.length
 (List.map syntaxC L)) : Int) /\ 80 * Int.toNat (↑(List.length (List.map syntaxC L)) : Int) <= 281474976710656) /\ Zbw L (li 0) (Ob.arr true 5 (List.replicate (Int.toNat
 (↑(List.length (List.map syntaxC L)) : Int)) [cI 0, cI 0, cS (ByteArray.mk #[]), Cell.list [], Cell.list []])) = Z28 L 0 /\ Z6m L (List.length L - 0)
 (Z28 L 0) /\ LoopSem Tryz.prog (loopAt Tryz.f30 0) (Z6m L) (Zfu L) /\ (True -> ObsEq [Ob.arr true 5 (List.map syntaxC L)] [Ob.arr true 5 (List.map
 syntaxC L)] /\ AV.sv (SV.one (AC.ref 0)) = AV.sv (SV.one (AC.ref 0))) /\ True) := by kernel_rfl
theorem Zae (L : List Syntax) (h : L.length + sumBy wY L <= 1048576) (ih : ∀ x ∈ L, ∀ (h : wY x <= 1048576), Z1s x)  : Z9n L := by
  refine CallOK.ofRun wide (Zts L) Tryz.call30 Tryz.func30 rfl rfl rfl ?_
  with_reducible repeat' (first | apply And.intro | exact flatI | exact flatS | exact rowLens | exact ih | (intro; skip) | apply obsN | apply obsC | apply obA | apply obM | apply obB | apply svA | apply tupA | apply lcA | apply lcS | apply svC | apply liC | apply lbC | apply lsC | apply vIc | apply vBc | apply vSc | apply vLc | apply mapC | apply hdI | apply Zn2 | apply Zv6 | apply Zk5)
  all_goals (try simp only [std] at *)
  all_goals (try (first | with_reducible apply ih | (simp only [<- List.map_append]; first | with_reducible apply ih)))
  all_goals (try (first | with_reducible rfl | omega | assumption | exact dT ‹_› | exact dF ‹_› | ((first | refine rowGet ?_ | refine getC ?_ rfl); (first | omega | (simp only [std]; omega) | grind)) | (refine fill_step ?_ ?_; (first | omega | (simp only [std]; omega) | grind); (first | rfl | exact (Row.eq _).trans rfl)) | (refine fill_init ?_; (first | rfl | exact (Row.eq _).trans rfl)) | (show (_ : St) = _; rfl) | grind [snocI, snocS, rowSnoc]))
theorem Zs6 (x : Syntax) : aexec Tryz.prog (Tryz.f31.body.getD .skip) (entry [] [syntaxA x] 22) [.call [Mode.rd] [Ob.arr true 1 (List.map intC
 (Syntax.scopes x))] (AV.sv (SV.one (AC.ref 0))), .call [Mode.rd] [Ob.arr true 5 (List.map syntaxC (Syntax.items x))] (AV.sv (SV.one (AC.ref 0))), .fin [3, 4]] (finK
 Tryz.prog [ResultVar.cell 2 66] (syntaxO x) (AV.sv (syntaxR x 0))) = (Znw (Syntax.scopes x) /\ Z9n (Syntax.items x) /\ ObsEq [Ob.arr true 1 (List.map intC
 (Syntax.scopes x)), Ob.arr true 5 (List.map syntaxC (Syntax.items x))] [Ob.arr true 1 (List.map intC (Syntax.scopes x)), Ob.arr true 5 (List.map syntaxC (Syntax.items x))] /\ AV.sv
 (SV.agg [vI (Syntax.kind x), vI (Syntax.number x), vS (Syntax.text x), AC.ref 0, AC.ref 1]) = AV.sv (SV.agg [vI (Syntax.kind x), vI (Syntax.number x), vS (Syntax.text x), AC.ref
 0, AC.ref 1])) := by kernel_rfl
theorem Zym (x : Syntax) (h : wY x <= 1048576) (ih : ∀ z ∈ x.items, ∀ (h : wY z <= 1048576), Z1s z)  : Z1s x := by
  refine CallOK.ofRun wide (Zs6 x) Tryz.call31 Tryz.func31 rfl rfl rfl ?_
  with_reducible repeat' (first | apply And.intro | exact flatI | exact flatS | exact rowLens | exact ih | (intro; skip) | apply obsN | apply obsC | apply obA | apply obM | apply obB | apply svA | apply tupA | apply lcA | apply lcS | apply svC | apply liC | apply lbC | apply lsC | apply vIc | apply vBc | apply vSc | apply vLc | apply mapC | apply Zft | apply Zae | apply ih)
  all_goals (try simp only [std] at *)
  all_goals (try (first | with_reducible apply Zft | with_reducible apply Zae | with_reducible apply ih | (simp only [<- List.map_append]; first | with_reducible apply Zft | with_reducible apply Zae | with_reducible apply ih)))
  all_goals (try (first | with_reducible rfl | omega | assumption | exact dT ‹_› | exact dF ‹_› | ((first | refine rowGet ?_ | refine getC ?_ rfl); (first | omega | (simp only [std]; omega) | grind)) | (refine fill_step ?_ ?_; (first | omega | (simp only [std]; omega) | grind); (first | rfl | exact (Row.eq _).trans rfl)) | (refine fill_init ?_; (first | rfl | exact (Row.eq _).trans rfl)) | (show (_ : St) = _; rfl) | grind [wY_eq, wS, snocI, snocS, rowSnoc]))
theorem Zbx (x : Syntax) : ∀ (h : wY x <= 1048576), Z1s x := Syntax.ind (P := fun x => ∀ (h : wY x <= 1048576), Z1s x) (fun x ih h => Zym x h ih) x
abbrev Zon (x : Binding) : Prop := CallOK Tryz.prog 96 [] [bindingA x] (bindingO x) (.sv (bindingR x 0))
theorem Ztt (x : Binding) : aexec Tryz.prog (Tryz.f96.body.getD .skip) (entry [] [bindingA x] 18) [.call [Mode.rd] [Ob.arr true 1 (List.map intC
 (Binding.scopes x))] (AV.sv (SV.one (AC.ref 0))), .fin [3]] (finK Tryz.prog [ResultVar.cell 2 134] (bindingO x) (AV.sv (bindingR x 0))) = (Znw (Binding.scopes x) /\ ObsEq
 [Ob.arr true 1 (List.map intC (Binding.scopes x))] [Ob.arr true 1 (List.map intC (Binding.scopes x))] /\ AV.sv (SV.agg [vS (Binding.text x), AC.ref 0, vI (Binding.kind x), vI
 (Binding.number x)]) = AV.sv (SV.agg [vS (Binding.text x), AC.ref 0, vI (Binding.kind x), vI (Binding.number x)])) := by kernel_rfl
theorem Zaf (x : Binding) (h : wB x <= 1048576)  : Zon x := by
  refine CallOK.ofRun wide (Ztt x) Tryz.call96 Tryz.func96 rfl rfl rfl ?_
  with_reducible repeat' (first | apply And.intro | exact flatI | exact flatS | exact rowLens | (intro; skip) | apply obsN | apply obsC | apply obA | apply obM | apply obB | apply svA | apply tupA | apply lcA | apply lcS | apply svC | apply liC | apply lbC | apply lsC | apply vIc | apply vBc | apply vSc | apply vLc | apply mapC | apply Zft)
  all_goals (try simp only [std] at *)
  all_goals (try (first | with_reducible apply Zft | (simp only [<- List.map_append]; first | with_reducible apply Zft)))
  all_goals (try (first | with_reducible rfl | omega | assumption | exact dT ‹_› | exact dF ‹_› | ((first | refine rowGet ?_ | refine getC ?_ rfl); (first | omega | (simp only [std]; omega) | grind)) | (refine fill_step ?_ ?_; (first | omega | (simp only [std]; omega) | grind); (first | rfl | exact (Row.eq _).trans rfl)) | (refine fill_init ?_; (first | rfl | exact (Row.eq _).trans rfl)) | (show (_ : St) = _; rfl) | grind [wB_eq, wS, snocI, snocS, rowSnoc]))
abbrev Zn3 (L : List Binding) : Prop := CallOK Tryz.prog 29 [] [ll (L.map bindingC)] [.arr true 4 (L.map bindingC)] (.sv (.one (.ref 0)))
def Zaq (L : List Binding) (x0 : SV) (x1 : Ob) : St := St.mk (regsOf 23 [(0, AV.sv (ll (List.map bindingC L))), (3, AV.sv (SV.one (AC.ref 0))), (4, AV.sv x0)]) [x1] 0 
def Z1m (L : List Binding) (k : Nat) : St := Zaq L (li (k : Int)) (Ob.arr true 4 (List.map bindingC (fillTo L k))) 
abbrev Z56 (L : List Binding) : Nat -> St -> Prop := Head (Z1m L) (fun k => k <= List.length L /\ List.length L <= 9223372036854775807) fun k => List.length L - k 
def Z42 (L : List Binding) (x0 : Ob) : St := St.mk (regsOf 23 [(3, AV.sv (SV.one (AC.ref 0)))]) [x0] 0 
def Zf0 (L : List Binding) : List (Prop × AEx × St) := [(True, AEx.exit 0, Z42 L (Ob.arr true 4 (List.map bindingC L)))]

theorem Zl3 {L : List Binding} {k : Nat} {x0 : SV} {x1 : Ob} (h0 : x0 = (li (k : Int))) (h1 : x1 = (Ob.arr true 4 (List.map bindingC (fillTo L k)))) : Zaq
 L x0 x1 = Z1m L k := by
  rw [h0, h1]
  rfl
theorem Zi6 {L : List Binding} {x0 y0 : Ob} (h0 : x0 = y0) : Z42 L x0 = Z42 L y0 := by rw [h0]
theorem Zq8 (L : List Binding) (k : Nat) : aexec Tryz.prog (loopAt Tryz.f29 0) (Z1m L k) [.br [.cells (bindingF (List.getD L k default)), .call
 [Mode.rd] (bindingO (List.getD L k default)) (AV.sv (bindingR (List.getD L k default) 0)), .cells (bindingF (List.getD (fillTo L k) (Int.toNat (k : Int)) default)), .ghost
 (.sel [0] [0, 3, 4]), .goto (List.length L - (k + 1)) (Z1m L (k + 1))] [.ghost (.sel [0] [3]), .out 0]] (loopK (Z56 L) (Zf0
 L) (List.length L - k)) = (List.length (List.map bindingC L) <= 9223372036854775807 -> (decide ((k : Int) < (↑(List.length (List.map bindingC L)) : Int)) = true -> (0 <= (k : Int) /\
 (List.map bindingC L)[Int.toNat (k : Int)]? = some (bindingF (List.getD L k default))) /\ Zon (List.getD L k default) /\ (0 <= (k : Int) /\ Int.toNat (k : Int) <
 List.length (List.map bindingC (fillTo L k))) /\ (List.map bindingC (fillTo L k))[Int.toNat (k : Int)]? = some (bindingF (List.getD (fillTo L k) (Int.toNat (k : Int)) default)) /\
 rng .i64 ((k : Int) + 1) /\ List.length L - (k + 1) < List.length L - k /\ Zaq L (li ((k : Int) + 1)) (Ob.arr true 4 (List.set (List.map bindingC (fillTo L k))
 (Int.toNat (k : Int)) (bindingF (List.getD L k default)))) = Z1m L (k + 1) /\ Z56 L (List.length L - (k + 1)) (Z1m L (k + 1))) /\ (decide ((↑k :
 Int) < (↑(List.length (List.map bindingC L)) : Int)) = false -> True /\ Z42 L (Ob.arr true 4 (List.map bindingC (fillTo L k))) = Z42 L (Ob.arr true 4
 (List.map bindingC L)))) := by kernel_rfl
theorem Ztu (L : List Binding) (h : List.length L + sumBy wB L <= 1048576)  : LoopSem Tryz.prog (loopAt Tryz.f29 0) (Z56 L) (Zf0 L) := by
  refine LoopSem.ofHead wide fun k h => ⟨_, _, Zq8 L k, ?_⟩
  with_reducible repeat' (first | apply And.intro | exact flatI | exact flatS | exact rowLens | (intro; skip) | apply obsN | apply obsC | apply obA | apply obM | apply obB | apply svA | apply tupA | apply lcA | apply lcS | apply svC | apply liC | apply lbC | apply lsC | apply vIc | apply vBc | apply vSc | apply vLc | apply mapC | apply hdI | apply Zl3 | apply Zi6 | apply Zaf)
  all_goals (try simp only [std] at *)
  all_goals (try (first | with_reducible apply Zaf | (simp only [<- List.map_append]; first | with_reducible apply Zaf)))
  all_goals (try (first | with_reducible rfl | omega | assumption | exact dT ‹_› | exact dF ‹_› | ((first | refine rowGet ?_ | refine getC ?_ rfl); (first | omega | (simp only [std]; omega) | grind)) | (refine fill_step ?_ ?_; (first | omega | (simp only [std]; omega) | grind); (first | rfl | exact (Row.eq _).trans rfl)) | (refine fill_init ?_; (first | rfl | exact (Row.eq _).trans rfl)) | (show (_ : St) = _; rfl) | grind [fillTo_all, getD_mem', sumBy_mem, snocI, snocS, rowSnoc]))
theorem Zs7 (L : List Binding) : aexec Tryz.prog (Tryz.f29.body.getD .skip) (entry [] [ll (List.map bindingC L)] 23) [.ghost (.sel [0] [0, 3,
 4]), .loop (List.length L - 0) (Z1m L 0) (Z56 L) [(True, AEx.exit 0, Z42 L (Ob.arr true 4 (List.map bindingC L)), [.fin [0]])]] (finK
 Tryz.prog [ResultVar.tmp 2] [Ob.arr true 4 (List.map bindingC L)] (AV.sv (SV.one (AC.ref 0)))) = (List.length (List.map bindingC L) <= 9223372036854775807 -> (0 <= (↑(List.length
 (List.map bindingC L)) : Int) /\ 56 * Int.toNat (↑(List.length (List.map bindingC L)) : Int) <= 281474976710656) /\ Zaq L (li 0) (Ob.arr true 4 (List.replicate (Int.toNat
 (↑(List.length (List.map bindingC L)) : Int)) [cS (ByteArray.mk #[]), Cell.list [], cI 0, cI 0])) = Z1m L 0 /\ Z56 L (List.length L - 0) (Z1m L
 0) /\ LoopSem Tryz.prog (loopAt Tryz.f29 0) (Z56 L) (Zf0 L) /\ (True -> ObsEq [Ob.arr true 4 (List.map bindingC L)] [Ob.arr true 4 (List.map bindingC L)] /\
 AV.sv (SV.one (AC.ref 0)) = AV.sv (SV.one (AC.ref 0))) /\ True) := by kernel_rfl
theorem Zk6 (L : List Binding) (h : L.length + sumBy wB L <= 1048576)  : Zn3 L := by
  refine CallOK.ofRun wide (Zs7 L) Tryz.call29 Tryz.func29 rfl rfl rfl ?_
  with_reducible repeat' (first | apply And.intro | exact flatI | exact flatS | exact rowLens | (intro; skip) | apply obsN | apply obsC | apply obA | apply obM | apply obB | apply svA | apply tupA | apply lcA | apply lcS | apply svC | apply liC | apply lbC | apply lsC | apply vIc | apply vBc | apply vSc | apply vLc | apply mapC | apply hdI | apply Zl3 | apply Ztu | apply Zi6 | apply Zaf)
  all_goals (try simp only [std] at *)
  all_goals (try (first | with_reducible apply Zaf | (simp only [<- List.map_append]; first | with_reducible apply Zaf)))
  all_goals (try (first | with_reducible rfl | omega | assumption | exact dT ‹_› | exact dF ‹_› | ((first | refine rowGet ?_ | refine getC ?_ rfl); (first | omega | (simp only [std]; omega) | grind)) | (refine fill_step ?_ ?_; (first | omega | (simp only [std]; omega) | grind); (first | rfl | exact (Row.eq _).trans rfl)) | (refine fill_init ?_; (first | rfl | exact (Row.eq _).trans rfl)) | (show (_ : St) = _; rfl) | grind [snocI, snocS, rowSnoc]))
abbrev Zr8 (x : Rules) : Prop := CallOK Tryz.prog 55 [] [rulesA x] (rulesO x) (.sv (rulesR x 0))
theorem Zwt (x : Rules) : aexec Tryz.prog (Tryz.f55.body.getD .skip) (entry [] [rulesA x] 17) [.call [Mode.rd] [Ob.arr true 5 (List.map syntaxC
 (Rules.literals x))] (AV.sv (SV.one (AC.ref 0))), .call [Mode.rd] [Ob.arr true 5 (List.map syntaxC (Rules.patterns x))] (AV.sv (SV.one (AC.ref 0))), .call [Mode.rd] [Ob.arr
 true 5 (List.map syntaxC (Rules.templates x))] (AV.sv (SV.one (AC.ref 0))), .fin [3, 4, 5]] (finK Tryz.prog [ResultVar.cell 2 78] (rulesO x) (AV.sv (rulesR x 0))) =
 (Z9n (Rules.literals x) /\ Z9n (Rules.patterns x) /\ Z9n (Rules.templates x) /\ ObsEq [Ob.arr true 5 (List.map syntaxC (Rules.literals x)), Ob.arr true
 5 (List.map syntaxC (Rules.patterns x)), Ob.arr true 5 (List.map syntaxC (Rules.templates x))] [Ob.arr true 5 (List.map syntaxC (Rules.literals x)), Ob.arr true 5 (List.map
 syntaxC (Rules.patterns x)), Ob.arr true 5 (List.map syntaxC (Rules.templates x))] /\ AV.sv (SV.agg [AC.ref 0, AC.ref 1, AC.ref 2]) = AV.sv (SV.agg [AC.ref 0, AC.ref 1, AC.ref 2]))
 := by kernel_rfl
theorem Zdn (x : Rules) (h : wR x <= 1048576)  : Zr8 x := by
  refine CallOK.ofRun wide (Zwt x) Tryz.call55 Tryz.func55 rfl rfl rfl ?_
  with_reducible repeat' (first | apply And.intro | exact flatI | exact flatS | exact rowLens | (intro; skip) | apply obsN | apply obsC | apply obA | apply obM | apply obB | apply svA | apply tupA | apply lcA | apply lcS | apply svC | apply liC | apply lbC | apply lsC | apply vIc | apply vBc | apply vSc | apply vLc | apply mapC | apply Zae | apply Zbx)
  all_goals (try simp only [std] at *)
  all_goals (try (first | with_reducible apply Zae | with_reducible apply Zbx | (simp only [<- List.map_append]; first | with_reducible apply Zae | with_reducible apply Zbx)))
  all_goals (try (first | with_reducible rfl | omega | assumption | exact dT ‹_› | exact dF ‹_› | ((first | refine rowGet ?_ | refine getC ?_ rfl); (first | omega | (simp only [std]; omega) | grind)) | (refine fill_step ?_ ?_; (first | omega | (simp only [std]; omega) | grind); (first | rfl | exact (Row.eq _).trans rfl)) | (refine fill_init ?_; (first | rfl | exact (Row.eq _).trans rfl)) | (show (_ : St) = _; rfl) | grind [wR_eq, wS, snocI, snocS, rowSnoc]))
abbrev Zq9 (L : List Rules) : Prop := CallOK Tryz.prog 86 [] [ll (L.map rulesC)] [.arr true 3 (L.map rulesC)] (.sv (.one (.ref 0)))
def Zd4 (L : List Rules) (x0 : SV) (x1 : Ob) : St := St.mk (regsOf 23 [(0, AV.sv (ll (List.map rulesC L))), (3, AV.sv (SV.one (AC.ref 0))), (4, AV.sv x0)]) [x1] 0 
def Z2w (L : List Rules) (k : Nat) : St := Zd4 L (li (k : Int)) (Ob.arr true 3 (List.map rulesC (fillTo L k))) 
abbrev Z7j (L : List Rules) : Nat -> St -> Prop := Head (Z2w L) (fun k => k <= List.length L /\ List.length L <= 9223372036854775807) fun k => List.length L - k 
def Z6n (L : List Rules) (x0 : Ob) : St := St.mk (regsOf 23 [(3, AV.sv (SV.one (AC.ref 0)))]) [x0] 0 
def Zhw (L : List Rules) : List (Prop × AEx × St) := [(True, AEx.exit 0, Z6n L (Ob.arr true 3 (List.map rulesC L)))]

theorem Zoo {L : List Rules} {k : Nat} {x0 : SV} {x1 : Ob} (h0 : x0 = (li (k : Int))) (h1 : x1 = (Ob.arr true 3 (List.map rulesC (fillTo L k)))) : Zd4 L x0 x1
 = Z2w L k := by
  rw [h0, h1]
  rfl
theorem Zl4 {L : List Rules} {x0 y0 : Ob} (h0 : x0 = y0) : Z6n L x0 = Z6n L y0 := by rw [h0]
theorem Zs8 (L : List Rules) (k : Nat) : aexec Tryz.prog (loopAt Tryz.f86 0) (Z2w L k) [.br [.cells (rulesF (List.getD L k default)), .call
 [Mode.rd] (rulesO (List.getD L k default)) (AV.sv (rulesR (List.getD L k default) 0)), .cells (rulesF (List.getD (fillTo L k) (Int.toNat (k : Int)) default)), .ghost
 (.sel [0] [0, 3, 4]), .goto (List.length L - (k + 1)) (Z2w L (k + 1))] [.ghost (.sel [0] [3]), .out 0]] (loopK (Z7j L) (Zhw L)
 (List.length L - k)) = (List.length (List.map rulesC L) <= 9223372036854775807 -> (decide ((k : Int) < (↑(List.length (List.map rulesC L)) : Int)) = true -> (0 <= (k : Int) /\
 (List.map rulesC L)[Int.toNat (k : Int)]? = some (rulesF (List.getD L k default))) /\ Zr8 (List.getD L k default) /\ (0 <= (k : Int) /\ Int.toNat (k : Int) < List.length
 (List.map rulesC (fillTo L k))) /\ (List.map rulesC (fillTo L k))[Int.toNat (k : Int)]? = some (rulesF (List.getD (fillTo L k) (Int.toNat (k : Int)) default)) /\ rng .i64
 ((k : Int) + 1) /\ List.length L - (k + 1) < List.length L - k /\ Zd4 L (li ((k : Int) + 1)) (Ob.arr true 3 (List.set (List.map rulesC (fillTo L k)) (Int.toNat (↑k :
 Int)) (rulesF (List.getD L k default)))) = Z2w L (k + 1) /\ Z7j L (List.length L - (k + 1)) (Z2w L (k + 1))) /\ (decide ((k : Int) < (↑(List.length
 (List.map rulesC L)) : Int)) = false -> True /\ Z6n L (Ob.arr true 3 (List.map rulesC (fillTo L k))) = Z6n L (Ob.arr true 3 (List.map rulesC L)))) := by
 kernel_rfl
theorem Zwu (L : List Rules) (h : List.length L + sumBy wR L <= 1048576)  : LoopSem Tryz.prog (loopAt Tryz.f86 0) (Z7j L) (Zhw L) := by
  refine LoopSem.ofHead wide fun k h => ⟨_, _, Zs8 L k, ?_⟩
  with_reducible repeat' (first | apply And.intro | exact flatI | exact flatS | exact rowLens | (intro; skip) | apply obsN | apply obsC | apply obA | apply obM | apply obB | apply svA | apply tupA | apply lcA | apply lcS | apply svC | apply liC | apply lbC | apply lsC | apply vIc | apply vBc | apply vSc | apply vLc | apply mapC | apply hdI | apply Zoo | apply Zl4 | apply Zdn)
  all_goals (try simp only [std] at *)
  all_goals (try (first | with_reducible apply Zdn | (simp only [<- List.map_append]; first | with_reducible apply Zdn)))
  all_goals (try (first | with_reducible rfl | omega | assumption | exact dT ‹_› | exact dF ‹_› | ((first | refine rowGet ?_ | refine getC ?_ rfl); (first | omega | (simp only [std]; omega) | grind)) | (refine fill_step ?_ ?_; (first | omega | (simp only [std]; omega) | grind); (first | rfl | exact (Row.eq _).trans rfl)) | (refine fill_init ?_; (first | rfl | exact (Row.eq _).trans rfl)) | (show (_ : St) = _; rfl) | grind [fillTo_all, getD_mem', sumBy_mem, snocI, snocS, rowSnoc]))
theorem Zv7 (L : List Rules) : aexec Tryz.prog (Tryz.f86.body.getD .skip) (entry [] [ll (List.map rulesC L)] 23) [.ghost (.sel [0] [0, 3, 4]),
 .loop (List.length L - 0) (Z2w L 0) (Z7j L) [(True, AEx.exit 0, Z6n L (Ob.arr true 3 (List.map rulesC L)), [.fin [0]])]] (finK Tryz.prog
 [ResultVar.tmp 2] [Ob.arr true 3 (List.map rulesC L)] (AV.sv (SV.one (AC.ref 0)))) = (List.length (List.map rulesC L) <= 9223372036854775807 -> (0 <= (↑(List.length (List.map rulesC
 L)) : Int) /\ 72 * Int.toNat (↑(List.length (List.map rulesC L)) : Int) <= 281474976710656) /\ Zd4 L (li 0) (Ob.arr true 3 (List.replicate (Int.toNat (↑(List.length
 (List.map rulesC L)) : Int)) [Cell.list [], Cell.list [], Cell.list []])) = Z2w L 0 /\ Z7j L (List.length L - 0) (Z2w L 0) /\ LoopSem Tryz.prog (loopAt
 Tryz.f86 0) (Z7j L) (Zhw L) /\ (True -> ObsEq [Ob.arr true 3 (List.map rulesC L)] [Ob.arr true 3 (List.map rulesC L)] /\ AV.sv (SV.one (AC.ref 0)) = AV.sv (SV.one
 (AC.ref 0))) /\ True) := by kernel_rfl
theorem Znx (L : List Rules) (h : L.length + sumBy wR L <= 1048576)  : Zq9 L := by
  refine CallOK.ofRun wide (Zv7 L) Tryz.call86 Tryz.func86 rfl rfl rfl ?_
  with_reducible repeat' (first | apply And.intro | exact flatI | exact flatS | exact rowLens | (intro; skip) | apply obsN | apply obsC | apply obA | apply obM | apply obB | apply svA | apply tupA | apply lcA | apply lcS | apply svC | apply liC | apply lbC | apply lsC | apply vIc | apply vBc | apply vSc | apply vLc | apply mapC | apply hdI | apply Zoo | apply Zwu | apply Zl4 | apply Zdn)
  all_goals (try simp only [std] at *)
  all_goals (try (first | with_reducible apply Zdn | (simp only [<- List.map_append]; first | with_reducible apply Zdn)))
  all_goals (try (first | with_reducible rfl | omega | assumption | exact dT ‹_› | exact dF ‹_› | ((first | refine rowGet ?_ | refine getC ?_ rfl); (first | omega | (simp only [std]; omega) | grind)) | (refine fill_step ?_ ?_; (first | omega | (simp only [std]; omega) | grind); (first | rfl | exact (Row.eq _).trans rfl)) | (refine fill_init ?_; (first | rfl | exact (Row.eq _).trans rfl)) | (show (_ : St) = _; rfl) | grind [snocI, snocS, rowSnoc]))
abbrev Z97 (x : Expander) : Prop := CallOK Tryz.prog 22 [] [expanderA x] (expanderO x) (.sv (expanderR x 0))
theorem Zs9 (x : Expander) : aexec Tryz.prog (Tryz.f22.body.getD .skip) (entry [] [expanderA x] 22) [.call [Mode.rd] [Ob.arr true 4 (List.map
 bindingC (Expander.bindings x))] (AV.sv (SV.one (AC.ref 0))), .call [Mode.rd] [Ob.arr true 3 (List.map rulesC (Expander.macros x))] (AV.sv (SV.one (AC.ref 0))), .fin [3, 4]]
 (finK Tryz.prog [ResultVar.cell 2 49] (expanderO x) (AV.sv (expanderR x 0))) = (Zn3 (Expander.bindings x) /\ Zq9 (Expander.macros x) /\ ObsEq [Ob.arr true 4
 (List.map bindingC (Expander.bindings x)), Ob.arr true 3 (List.map rulesC (Expander.macros x))] [Ob.arr true 4 (List.map bindingC (Expander.bindings x)), Ob.arr true 3 (List.map
 rulesC (Expander.macros x))] /\ AV.sv (SV.agg [AC.ref 0, AC.ref 1, vI (Expander.scope x), vI (Expander.vari x), vI (Expander.steps x)]) = AV.sv (SV.agg [AC.ref 0, AC.ref 1, vI
 (Expander.scope x), vI (Expander.vari x), vI (Expander.steps x)])) := by kernel_rfl
theorem Zk7 (x : Expander) (h : wX x <= 1048576)  : Z97 x := by
  refine CallOK.ofRun wide (Zs9 x) Tryz.call22 Tryz.func22 rfl rfl rfl ?_
  with_reducible repeat' (first | apply And.intro | exact flatI | exact flatS | exact rowLens | (intro; skip) | apply obsN | apply obsC | apply obA | apply obM | apply obB | apply svA | apply tupA | apply lcA | apply lcS | apply svC | apply liC | apply lbC | apply lsC | apply vIc | apply vBc | apply vSc | apply vLc | apply mapC | apply Zk6 | apply Znx)
  all_goals (try simp only [std] at *)
  all_goals (try (first | with_reducible apply Zk6 | with_reducible apply Znx | (simp only [<- List.map_append]; first | with_reducible apply Zk6 | with_reducible apply Znx)))
  all_goals (try (first | with_reducible rfl | omega | assumption | exact dT ‹_› | exact dF ‹_› | ((first | refine rowGet ?_ | refine getC ?_ rfl); (first | omega | (simp only [std]; omega) | grind)) | (refine fill_step ?_ ?_; (first | omega | (simp only [std]; omega) | grind); (first | rfl | exact (Row.eq _).trans rfl)) | (refine fill_init ?_; (first | rfl | exact (Row.eq _).trans rfl)) | (show (_ : St) = _; rfl) | grind [wX_eq, wS, snocI, snocS, rowSnoc]))
end Go.Proofs.YtegbadciefljcaaGreat
end
