/- Part 3 of the proof: The program's NewWorld returns what the reference's returns. No condition. -/
import Derived.Test.YtjgbkigdnjalkaaGreatDoorNwW2
section
namespace Go.Proofs.YtjgbkigdnjalkaaGreatDoor
open Go Go.Proofs.YtjgbkigdnjalkaaGreatDoor.Ab
set_option linter.unusedVariables false
set_option linter.unusedSimpArgs false
set_option maxHeartbeats 4000000
abbrev stT (M : List Rules) (sc va st z c : Int) : List Ob := [.box [.top, .ref 1, vI sc, vI va, vI st, vI z, vI c], .arr true 3 (M.map rulesC)]
abbrev P_c_sFailT (M : List Rules) (sc : Int) (va : Int) (st : Int) (z : Int) (c : Int) (e : Int) : Ct := ⟨42, stT M sc va st z c, [.one (.ptr 0 0), li e], stT M sc va st z (cdF c e), .sv (.agg [vI 0, vI 0, .val (.lit (.slice none 0 0)), vI 0, vI 0, vS (mkS []), .val (.lit (.slice none 0 0)), .val (.lit (.slice none 0 0))])⟩
theorem c_sFailT (M : List Rules) (sc va st z c e : Int)  : P_c_sFailT M sc va st z c e := fnOK Tryz.call42 Tryz.func42 (.i (c = 0) (.f [] [Ob.box [AC.top, AC.ref 1, vI sc, vI va, vI
 st, vI z, vI e], Ob.arr true 3 (List.map rulesC M)] (AV.sv (SV.agg [vI 0, vI 0, AC.val (Cell.lit (Value.slice none 0 0)), vI 0, vI 0, vS (ByteArray.mk #[]), AC.val (Cell.lit
 (Value.slice none 0 0)), AC.val (Cell.lit (Value.slice none 0 0))]))) (.f [] [Ob.box [AC.top, AC.ref 1, vI sc, vI va, vI st, vI z, vI c], Ob.arr true 3 (List.map rulesC M)] (AV.sv
 (SV.agg [vI 0, vI 0, AC.val (Cell.lit (Value.slice none 0 0)), vI 0, vI 0, vS (ByteArray.mk #[]), AC.val (Cell.lit (Value.slice none 0 0)), AC.val (Cell.lit (Value.slice none 0
 0))])))) (by
  dsimp only [teasy, P_c_sFailT]
  with_reducible repeat' (first | apply And.intro | exact zR | (intro; skip))
  all_goals (try simp only [std, inj] at *)
  all_goals with_reducible repeat' apply And.intro
  all_goals (try (first | exact z | grind [cdF, snocI, snocS, rowSnoc])))
abbrev P_c_sBind1 (x : Expander) (z : Int) (c : Int) (id : Syntax) (kind : Int) (n : Int) : Ct := ⟨83, stO x z c, [.one (.ptr 0 0), syntaxA id, li kind, li n], [.box [.ref 3, .ref 2, vI x.scope, vI x.vari, vI x.steps, vI z, vI (if bdE x id.text id.scopes = 0 then c else cdF c (bdE x id.text id.scopes))], .dead, .arr true 3 (x.macros.map rulesC), .arr true 4 ((bdL x id kind n).map bindingC)], .tup []⟩
theorem c_sBind1 (x : Expander) (z c : Int) (id : Syntax) (kind n : Int) (h : wX x ≤ 1048576 ∧ wY id ≤ 1048576)  : P_c_sBind1 x z c id kind n := fnOK Tryz.call83 Tryz.func83 (.w
 (.draw []) (.c [.rd, .rd] (c_sClash x.bindings (Binding.mk id.text id.scopes kind n)) (.b (clash x.bindings id.text id.scopes) (.c [.ptr, .rd] (c_sFail x z c 4) (.w (.ghost (.move
 1)) (.f [5] [Ob.box [AC.ref 3, AC.ref 2, vI x.scope, vI x.vari, vI x.steps, vI z, vI (cdF c 4)], Ob.dead, Ob.arr true 3 (List.map rulesC x.macros), Ob.arr true 4 (List.map
 bindingC x.bindings)] (AV.tup [])))) (.w (.draw [(6, [1])]) (.d [.own true 4, .rd] (P_c_sAddC x.bindings (Binding.mk id.text id.scopes kind n)) (.b (!!(decide (1000 ≤
 (↑x.bindings.length : Int)) || clash x.bindings id.text id.scopes)) (.w (.ghost (.blank 0 0)) (.c [.ptr, .rd] (c_sFailT x.macros x.scope x.vari x.steps z c 8) (.f [6] [Ob.box
 [AC.ref 3, AC.ref 2, vI x.scope, vI x.vari, vI x.steps, vI z, vI (cdF c 8)], Ob.dead, Ob.arr true 3 (List.map rulesC x.macros), Ob.arr true 4 (List.map bindingC (addB x.bindings
 (Binding.mk id.text id.scopes kind n)))] (AV.tup [])))) (.f [6] [Ob.box [AC.ref 3, AC.ref 2, vI x.scope, vI x.vari, vI x.steps, vI z, vI c], Ob.dead, Ob.arr true 3 (List.map
 rulesC x.macros), Ob.arr true 4 (List.map bindingC (addB x.bindings (Binding.mk id.text id.scopes kind n)))] (AV.tup [])))))))) (by
  dsimp only [teasy, P_c_sBind1]
  have g1 := wX_eq x
  have g2 := wY_eq id
  have g3 : wB ⟨id.text, id.scopes, kind, n⟩ = id.text.size + id.scopes.length := rfl
  have g4 := @addB_no x.bindings ⟨id.text, id.scopes, kind, n⟩
  have g5 := @addB_yes x.bindings ⟨id.text, id.scopes, kind, n⟩
  with_reducible repeat' (first | apply And.intro | exact zR | (intro; skip) | apply c_sAddC)
  all_goals (try simp only [std, inj] at *)
  all_goals with_reducible repeat' apply And.intro
  all_goals (try (first | with_reducible apply c_sAddC | (simp only [← List.map_append]; first | with_reducible apply c_sAddC)))
  all_goals (try (first | exact z | grind [bdE, bdL, snocI, snocS, rowSnoc])))
abbrev P_c_sMac1 (x : Expander) (z : Int) (c : Int) (id : Syntax) (r : Rules) : Ct := ⟨44, [.box [.ref 1, .ref 2, vI x.scope, vI x.vari, vI x.steps, vI z, vI c], .arr true 4 (x.bindings.map bindingC), .arr true 3 (x.macros.map rulesC), .arr true 5 (r.literals.map syntaxC), .arr true 5 (r.patterns.map syntaxC), .arr true 5 (r.templates.map syntaxC)], [.one (.ptr 0 0), syntaxA id, .agg [.ref 3, .ref 4, .ref 5]], [.box [.ref 6, .ref 7, vI x.scope, vI x.vari, vI x.steps, vI z, vI (if bmE x id = 0 then c else cdF c (bmE x id))], .dead, .dead, .dead, .dead, .dead, .arr true 4 ((if 200 ≤ (x.macros.length : Int) then x.bindings else bdL x id 4 (x.macros.length : Int)).map bindingC), .arr true 3 ((bmL x r).map rulesC)], .tup []⟩
theorem c_sMac1 (x : Expander) (z c : Int) (id : Syntax) (r : Rules) (h : wX x ≤ 1048576 ∧ wY id ≤ 1048576)  : P_c_sMac1 x z c id r := fnOK Tryz.call44 Tryz.func44 (.z rulesC
 x.macros (.i (200 ≤ (↑(List.map rulesC x.macros).length : Int)) (.c [.ptr, .rd] (c_sFail x z c 8) (.w (.ghost (.move 1)) (.w (.ghost (.move 2)) (.w (.ghost (.move 3)) (.w (.ghost
 (.move 4)) (.w (.ghost (.move 5)) (.f [8, 9] [Ob.box [AC.ref 6, AC.ref 7, vI x.scope, vI x.vari, vI x.steps, vI z, vI (cdF c 8)], Ob.dead, Ob.dead, Ob.dead, Ob.dead, Ob.dead,
 Ob.arr true 4 (List.map bindingC x.bindings), Ob.arr true 3 (List.map rulesC x.macros)] (AV.tup [])))))))) (.w (.draw [(8, [0, 1, 2])]) (.d [.ptr, .rd, .rd, .rd] (P_c_sBind1 x z c
 id 4 (↑(List.map rulesC x.macros).length : Int)) (.z rulesC x.macros (.w (.draw [(7, [3, 4, 5]), (8, [2, 12]), (12, [0])]) (.p (((List.map rulesC x.macros).length + 1) * 72 ≤
 140737488355328) (.f [11, 13] [Ob.box [AC.ref 6, AC.ref 7, vI x.scope, vI x.vari, vI x.steps, vI z, vI (if bdE x id.text id.scopes = 0 then c else cdF c (bdE x id.text
 id.scopes))], Ob.dead, Ob.dead, Ob.dead, Ob.dead, Ob.dead, Ob.arr true 4 (List.map bindingC (bdL x id 4 (↑(List.map rulesC x.macros).length : Int))), Ob.arr true 3 (List.map
 rulesC x.macros ++ [rulesF r])] (AV.tup []))))))))) (by
  dsimp only [teasy, P_c_sMac1]
  have g1 := wX_eq x
  have g2 : bmE x id = if 200 ≤ (x.macros.length : Int) then 8 else bdE x id.text id.scopes := rfl
  with_reducible repeat' (first | apply And.intro | exact zR | (intro; skip) | apply c_sBind1)
  all_goals (try simp only [std, inj] at *)
  all_goals with_reducible repeat' apply And.intro
  all_goals (try (first | with_reducible apply c_sBind1 | (simp only [← List.map_append]; first | with_reducible apply c_sBind1)))
  all_goals (try (first | exact z | grind [bmL, snocI, snocS, rowSnoc])))
end Go.Proofs.YtjgbkigdnjalkaaGreatDoor
end
section
namespace Go.Proofs.YtjgbkigdnjalkaaGreatDoor
open Go Go.Proofs.YtjgbkigdnjalkaaGreatDoor.Ab
set_option linter.unusedVariables false
set_option linter.unusedSimpArgs false
set_option maxHeartbeats 4000000
abbrev P_c_rHas (L : List Int) (n : Int) : Ct := ⟨129, [], [ll (L.map intC), li n], [], .sv (lb (decide (n ∈ L)))⟩
def lc_rHasLa (L : List Int) (n : Int) : Lp Nat := .mk 17 0 (fun x => [(1, li n), (7, ll (List.map intC L)), (8, li (↑(List.map intC L).length : Int)), (9, hs x 0)]) (fun x => [])
 (fun k => [.s (li (↑k : Int))]) (fun k => k ≤ L.length ∧ L.length ≤ 9223372036854775807 ∧ decide (n ∈ List.take k L) = false) (fun k => L.length - k) [.mk (decide (n ∈ L) = false)
 (.exit 0) (fun x => []) (fun x => []) [], .mk (decide (n ∈ L) = true) .ret (fun x => [(4, hs x 0)]) (fun x => []) [.s (lb true)]]
theorem Sc_rHasLa (L : List Int) (n : Int) : Lp.Sem Tryz.prog (loopAt Tryz.f129 0) (lc_rHasLa L n) := lpOK (fun k => .i ((↑k : Int) < (↑(List.map intC L).length : Int)) (.x (↑k :
 Int) (List.map intC L) [cI (L.getD k 0)] (.i (L.getD k 0 = n) (.o 1 [] [.s (lb true)]) (.r ((↑k : Int) + 1) (.g [] (k + 1) [.s (li ((↑k : Int) + 1))])))) (.o 0 [] [])) (by
  intro k h; try dsimp only [teasy, nthW, lc_rHasLa] at h ⊢
  with_reducible repeat' (first | apply And.intro | exact zR | (intro; skip))
  all_goals (try simp only [std, inj] at *)
  all_goals with_reducible repeat' apply And.intro
  all_goals (try (first | exact z | grind [take_get, getD_mem', snocI, snocS, rowSnoc])))
theorem c_rHas (L : List Int) (n : Int)  : P_c_rHas L n := fnOK Tryz.call129 Tryz.func129 (.z intC L (.l (lc_rHasLa L n) (Sc_rHasLa L n) [] [.s (li 0)] 0 (.t (.s (lb false)) (.t (.s
 (lb true)) .q)))) (by
  dsimp only [teasy, P_c_rHas, nthW, lc_rHasLa]
  with_reducible repeat' (first | apply And.intro | exact zR | (intro; skip))
  all_goals (try simp only [std, inj] at *)
  all_goals with_reducible repeat' apply And.intro
  all_goals (try (first | exact z | grind [snocI, snocS, rowSnoc])))
abbrev P_c_rIHas (L : List Int) (n : Int) : Ct := ⟨169, [], [ll (L.map intC), li n], [], .sv (lb (decide (n ∈ L)))⟩
def lc_rIHasLa (L : List Int) (n : Int) : Lp Nat := .mk 17 0 (fun x => [(1, li n), (7, ll (List.map intC L)), (8, li (↑(List.map intC L).length : Int)), (9, hs x 0)]) (fun x => [])
 (fun k => [.s (li (↑k : Int))]) (fun k => k ≤ L.length ∧ L.length ≤ 9223372036854775807 ∧ decide (n ∈ List.take k L) = false) (fun k => L.length - k) [.mk (decide (n ∈ L) = false)
 (.exit 0) (fun x => []) (fun x => []) [], .mk (decide (n ∈ L) = true) .ret (fun x => [(4, hs x 0)]) (fun x => []) [.s (lb true)]]
theorem Sc_rIHasLa (L : List Int) (n : Int) : Lp.Sem Tryz.prog (loopAt Tryz.f169 0) (lc_rIHasLa L n) := lpOK (fun k => .i ((↑k : Int) < (↑(List.map intC L).length : Int)) (.x (↑k :
 Int) (List.map intC L) [cI (L.getD k 0)] (.i (L.getD k 0 = n) (.o 1 [] [.s (lb true)]) (.r ((↑k : Int) + 1) (.g [] (k + 1) [.s (li ((↑k : Int) + 1))])))) (.o 0 [] [])) (by
  intro k h; try dsimp only [teasy, nthW, lc_rIHasLa] at h ⊢
  with_reducible repeat' (first | apply And.intro | exact zR | (intro; skip))
  all_goals (try simp only [std, inj] at *)
  all_goals with_reducible repeat' apply And.intro
  all_goals (try (first | exact z | grind [take_get, getD_mem', snocI, snocS, rowSnoc])))
theorem c_rIHas (L : List Int) (n : Int)  : P_c_rIHas L n := fnOK Tryz.call169 Tryz.func169 (.z intC L (.l (lc_rIHasLa L n) (Sc_rIHasLa L n) [] [.s (li 0)] 0 (.t (.s (lb false)) (.t
 (.s (lb true)) .q)))) (by
  dsimp only [teasy, P_c_rIHas, nthW, lc_rIHasLa]
  with_reducible repeat' (first | apply And.intro | exact zR | (intro; skip))
  all_goals (try simp only [std, inj] at *)
  all_goals with_reducible repeat' apply And.intro
  all_goals (try (first | exact z | grind [snocI, snocS, rowSnoc])))
def subI (A B : List Int) : Bool := A.all fun n => decide (n ∈ B)
abbrev P_c_sSub (A : List Int) (B : List Int) : Ct := ⟨152, [], [ll (A.map intC), ll (B.map intC)], [], .sv (lb (subI A B))⟩
def lc_sSubLa (A : List Int) (B : List Int) : Lp Nat := .mk 18 0 (fun x => [(1, ll (List.map intC B)), (7, ll (List.map intC A)), (8, li (↑(List.map intC A).length : Int)), (9, hs
 x 0)]) (fun x => []) (fun k => [.s (li (↑k : Int))]) (fun k => k ≤ A.length ∧ A.length ≤ 9223372036854775807 ∧ subI (List.take k A) B = true) (fun k => A.length - k) [.mk (subI A
 B = true) (.exit 0) (fun x => []) (fun x => []) [], .mk (subI A B = false) .ret (fun x => [(4, hs x 0)]) (fun x => []) [.s (lb false)]]
theorem Sc_sSubLa (A : List Int) (B : List Int) : Lp.Sem Tryz.prog (loopAt Tryz.f152 0) (lc_sSubLa A B) := lpOK (fun k => .i ((↑k : Int) < (↑(List.map intC A).length : Int)) (.x
 (↑k : Int) (List.map intC A) [cI (A.getD k 0)] (.c [.rd, .rd] (c_rHas B (A.getD k 0)) (.b (!decide (A.getD k 0 ∈ B)) (.o 1 [] [.s (lb false)]) (.r ((↑k : Int) + 1) (.g [] (k + 1)
 [.s (li ((↑k : Int) + 1))]))))) (.o 0 [] [])) (by
  intro k h; try dsimp only [teasy, nthW, lc_sSubLa] at h ⊢
  with_reducible repeat' (first | apply And.intro | exact zR | (intro; skip))
  all_goals (try simp only [std, inj] at *)
  all_goals with_reducible repeat' apply And.intro
  all_goals (try (first | exact z | grind [take_get, getD_mem', subI, snocI, snocS, rowSnoc])))
theorem c_sSub (A B : List Int)  : P_c_sSub A B := fnOK Tryz.call152 Tryz.func152 (.z intC A (.l (lc_sSubLa A B) (Sc_sSubLa A B) [] [.s (li 0)] 0 (.t (.s (lb true)) (.t (.s (lb
 false)) .q)))) (by
  dsimp only [teasy, P_c_sSub, nthW, lc_sSubLa]
  with_reducible repeat' (first | apply And.intro | exact zR | (intro; skip))
  all_goals (try simp only [std, inj] at *)
  all_goals with_reducible repeat' apply And.intro
  all_goals (try (first | exact z | grind [subI, snocI, snocS, rowSnoc])))
abbrev P_c_iSub (A : List Int) (B : List Int) : Ct := ⟨136, [], [ll (A.map intC), ll (B.map intC)], [], .sv (lb (subI A B))⟩
def lc_iSubLa (A : List Int) (B : List Int) : Lp Nat := .mk 18 0 (fun x => [(1, ll (List.map intC B)), (7, ll (List.map intC A)), (8, li (↑(List.map intC A).length : Int)), (9, hs
 x 0)]) (fun x => []) (fun k => [.s (li (↑k : Int))]) (fun k => k ≤ A.length ∧ A.length ≤ 9223372036854775807 ∧ subI (List.take k A) B = true) (fun k => A.length - k) [.mk (subI A
 B = true) (.exit 0) (fun x => []) (fun x => []) [], .mk (subI A B = false) .ret (fun x => [(4, hs x 0)]) (fun x => []) [.s (lb false)]]
theorem Sc_iSubLa (A : List Int) (B : List Int) : Lp.Sem Tryz.prog (loopAt Tryz.f136 0) (lc_iSubLa A B) := lpOK (fun k => .i ((↑k : Int) < (↑(List.map intC A).length : Int)) (.x
 (↑k : Int) (List.map intC A) [cI (A.getD k 0)] (.c [.rd, .rd] (c_rIHas B (A.getD k 0)) (.b (!decide (A.getD k 0 ∈ B)) (.o 1 [] [.s (lb false)]) (.r ((↑k : Int) + 1) (.g [] (k + 1)
 [.s (li ((↑k : Int) + 1))]))))) (.o 0 [] [])) (by
  intro k h; try dsimp only [teasy, nthW, lc_iSubLa] at h ⊢
  with_reducible repeat' (first | apply And.intro | exact zR | (intro; skip))
  all_goals (try simp only [std, inj] at *)
  all_goals with_reducible repeat' apply And.intro
  all_goals (try (first | exact z | grind [take_get, getD_mem', subI, snocI, snocS, rowSnoc])))
theorem c_iSub (A B : List Int)  : P_c_iSub A B := fnOK Tryz.call136 Tryz.func136 (.z intC A (.l (lc_iSubLa A B) (Sc_iSubLa A B) [] [.s (li 0)] 0 (.t (.s (lb true)) (.t (.s (lb
 false)) .q)))) (by
  dsimp only [teasy, P_c_iSub, nthW, lc_iSubLa]
  with_reducible repeat' (first | apply And.intro | exact zR | (intro; skip))
  all_goals (try simp only [std, inj] at *)
  all_goals with_reducible repeat' apply And.intro
  all_goals (try (first | exact z | grind [subI, snocI, snocS, rowSnoc])))
def cndP (t : ByteArray) (s : List Int) (b : Binding) : Bool := decide (b.text = t) && subI b.scopes s
def cnd (L : List Binding) (t : ByteArray) (s : List Int) : List Binding := L.filter (cndP t s)
theorem cnd_step {L : List Binding} {t : ByteArray} {s : List Int} {k : Nat} (h : k < L.length) : cnd (L.take (k + 1)) t s = if cndP t s (L.getD k default) = true then cnd (L.take k) t s ++ [L.getD k default] else cnd (L.take k) t s := by
  unfold cnd; rw [take_get h, List.filter_append]
  by_cases e : cndP t s (L.getD k default) = true
  · rw [if_pos e, List.filter_cons_of_pos e]; rfl
  · rw [if_neg e, List.filter_cons_of_neg e]; simp
theorem cnd_len (L : List Binding) (t : ByteArray) (s : List Int) (k : Nat) : (cnd (L.take k) t s).length ≤ k := by
  have h1 := List.length_filter_le (cndP t s) (L.take k)
  have h2 : (L.take k).length ≤ k := by rw [List.length_take]; exact Nat.min_le_left _ _
  unfold cnd; omega
abbrev P_c_sCand (L : List Binding) (y : Syntax) : Ct := ⟨151, [], [ll (L.map bindingC), syntaxA y], [], .sv (ll ((cnd L y.text y.scopes).map bindingC))⟩
def lc_sCandLa (L : List Binding) (y : Syntax) : Lp Nat := .mk 33 0 (fun x => [(3, SV.one (AC.ptr 0 0)), (5, SV.one (AC.ref 1)), (9, ll (List.map bindingC L)), (10, li (↑(List.map
 bindingC L).length : Int)), (11, hs x 0)]) (fun x => [Ob.box (vals (syntaxF y)), ho x 1]) (fun k => [.s (li (↑k : Int)), .o (Ob.arr false 4 (List.map bindingC (cnd (List.take k L)
 y.text y.scopes)))]) (fun k => k ≤ L.length ∧ L.length ≤ 9223372036854775807) (fun k => L.length - k) [.mk True (.exit 0) (fun x => [(5, SV.one (AC.ref 0))]) (fun x => [ho x 0])
 [.o (Ob.arr false 4 (List.map bindingC (cnd L y.text y.scopes)))]]
theorem Sc_sCandLa (L : List Binding) (y : Syntax) (h : L.length ≤ 1048577) : Lp.Sem Tryz.prog (loopAt Tryz.f151 0) (lc_sCandLa L y) := lpOK (fun k => .i ((↑k : Int) < (↑(List.map
 bindingC L).length : Int)) (.x (↑k : Int) (List.map bindingC L) (bindingF (L.getD k default)) (.i ((L.getD k default).text.data.toList = y.text.data.toList) (.c [.rd, .rd] (c_sSub
 (L.getD k default).scopes y.scopes) (.b (subI (L.getD k default).scopes y.scopes) (.p (((List.map bindingC (cnd (List.take k L) y.text y.scopes)).length + 1) * 56 ≤
 140737488355328) (.r ((↑k : Int) + 1) (.g [0, 4] (k + 1) [.s (li ((↑k : Int) + 1)), .o (Ob.arr false 4 (List.map bindingC (cnd (List.take k L) y.text y.scopes) ++ [bindingF
 (L.getD k default)]))]))) (.r ((↑k : Int) + 1) (.g [0, 1] (k + 1) [.s (li ((↑k : Int) + 1)), .o (Ob.arr false 4 (List.map bindingC (cnd (List.take k L) y.text y.scopes)))])))) (.y
 false (.r ((↑k : Int) + 1) (.g [0, 1] (k + 1) [.s (li ((↑k : Int) + 1)), .o (Ob.arr false 4 (List.map bindingC (cnd (List.take k L) y.text y.scopes)))]))))) (.o 0 [1] [.o (Ob.arr
 false 4 (List.map bindingC (cnd (List.take k L) y.text y.scopes)))])) (by
  intro k h; try dsimp only [teasy, nthW, lc_sCandLa] at h ⊢
  have g1 := @cnd_step L y.text y.scopes k
  have g2 := cnd_len L y.text y.scopes k
  have g3 : L.length ≤ k → L.take k = L := fun h => List.take_of_length_le h
  with_reducible repeat' (first | apply And.intro | exact zR | (intro; skip))
  all_goals (try simp only [std, inj] at *)
  all_goals with_reducible repeat' apply And.intro
  all_goals (try (first | exact z | grind [cndP, bytes_ext, snocI, snocS, rowSnoc])))
theorem c_sCand (L : List Binding) (y : Syntax) (h : L.length ≤ 1048577)  : P_c_sCand L y := fnOK Tryz.call151 Tryz.func151 (.w (.bool true) (.z bindingC L (.l (lc_sCandLa L y)
 (Sc_sCandLa L y h) [0, 1] [.s (li 0), .o (Ob.arr false 4 [])] 0 (.t (.w (.ghost (.lock 0)) (.s (ll (List.map bindingC (cnd L y.text y.scopes))))) .q)))) (by
  dsimp only [teasy, P_c_sCand, nthW, lc_sCandLa]
  have g1 : cnd (L.take 0) y.text y.scopes = [] := rfl
  with_reducible repeat' (first | apply And.intro | exact zR | (intro; skip))
  all_goals (try simp only [std, inj] at *)
  all_goals with_reducible repeat' apply And.intro
  all_goals (try (first | exact z | grind [snocI, snocS, rowSnoc])))
def bstG (a b : Binding) : Binding := if a.scopes.length < b.scopes.length then b else a
def bstC (C : List Binding) : Binding := C.foldl bstG (C.getD 0 default)
theorem bstC_one (x : Binding) : bstC [x] = x := by simp [bstC, bstG]
theorem bstC_snoc {C : List Binding} (x : Binding) (h : C ≠ []) : bstC (C ++ [x]) = bstG (bstC C) x := by
  cases C with
  | nil => exact absurd rfl h
  | cons a r => simp only [bstC, List.foldl_append]; rfl
def amb (C : List Binding) : Bool := C.all fun b => subI b.scopes (bstC C).scopes
def rsC (L : List Binding) (t : ByteArray) (s : List Int) : Int := if cnd L t s = [] then 0 else if amb (cnd L t s) = true then 1 else 2
def rsB (L : List Binding) (t : ByteArray) (s : List Int) : Binding := if rsC L t s = 1 then bstC (cnd L t s) else ⟨mkS [], [], 0, 0⟩
theorem bstG_mem {C : List Binding} : ∀ (a : Binding), C.foldl bstG a = a ∨ C.foldl bstG a ∈ C := by
  induction C with
  | nil => intro a; exact .inl rfl
  | cons x r ih =>
    intro a
    rw [List.foldl_cons]
    rcases ih (bstG a x) with h | h
    · rw [h]; unfold bstG; split
      · exact .inr List.mem_cons_self
      · exact .inl rfl
    · exact .inr (List.mem_cons_of_mem _ h)
theorem bstC_mem {C : List Binding} (h : C ≠ []) : bstC C ∈ C := by
  cases C with
  | nil => exact absurd rfl h
  | cons a r =>
    rcases bstG_mem (C := a :: r) ((a :: r).getD 0 default) with h | h
    · unfold bstC; rw [h]; exact List.mem_cons_self
    · exact h
theorem cnd_w (L : List Binding) (t : ByteArray) (s : List Int) : sumBy wB (cnd L t s) ≤ sumBy wB L := by
  induction L with
  | nil => exact Nat.le_refl _
  | cons x r ih =>
    unfold cnd at ih ⊢
    by_cases e : cndP t s x = true
    · rw [List.filter_cons_of_pos e]; simp only [sumBy]; omega
    · rw [List.filter_cons_of_neg e]; simp only [sumBy]; omega
theorem bstC_w {L : List Binding} {t : ByteArray} {s : List Int} (h : cnd L t s ≠ []) : wB (bstC (cnd L t s)) ≤ sumBy wB L := by
  have h1 := sumBy_mem wB (bstC_mem h)
  have h2 := cnd_w L t s
  omega
theorem amb_stop {C : List Binding} {k : Nat} (hk : k < C.length) (h : subI (C.getD k default).scopes (bstC C).scopes = false) : amb C = false := by
  unfold amb; rw [List.all_eq_false]; exact ⟨_, getD_mem' hk, by rw [h]; decide⟩
def ambN (C : List Binding) (k : Nat) : Bool := (C.take k).all fun b => subI b.scopes (bstC C).scopes
theorem ambN_step {C : List Binding} {k : Nat} (hk : k < C.length) (h0 : ambN C k = true) (h : subI (C.getD k default).scopes (bstC C).scopes = true) : ambN C (k + 1) = true := by
  unfold ambN at *; rw [take_get hk, List.all_append, h0]; simpa using h
theorem ambN_end {C : List Binding} {k : Nat} (hk : C.length ≤ k) (h0 : ambN C k = true) : amb C = true := by
  unfold ambN at h0; rwa [List.take_of_length_le hk] at h0
abbrev P_c_sRes (L : List Binding) (y : Syntax) : Ct := ⟨118, [], [ll (L.map bindingC), syntaxA y], [], .tup [bindingA (rsB L y.text y.scopes), li (rsC L y.text y.scopes)]⟩
def lc_sResLb (L : List Binding) (y : Syntax) : Lp Nat := .mk 56 0 (fun x => [(4, SV.one (AC.ptr 0 0)), (7, SV.one (AC.ptr 1 0)), (37, ll (List.map bindingC (cnd L y.text
 y.scopes))), (38, li (↑(List.map bindingC (cnd L y.text y.scopes)).length : Int)), (39, hs x 0)]) (fun x => [Ob.box [vS (ByteArray.mk #[]), AC.val (Cell.lit (Value.slice none 0
 0)), vI 0, vI 0], Ob.box (vals (bindingF (bstC (cnd L y.text y.scopes))))]) (fun k => [.s (li (↑k : Int))]) (fun k => k ≤ (cnd L y.text y.scopes).length ∧ (cnd L y.text
 y.scopes).length ≤ 9223372036854775807 ∧ 0 < (cnd L y.text y.scopes).length ∧ ambN (cnd L y.text y.scopes) k = true) (fun k => (cnd L y.text y.scopes).length - k) [.mk (amb (cnd L
 y.text y.scopes) = true) (.exit 2) (fun x => [(4, SV.one (AC.ptr 0 0)), (7, SV.one (AC.ptr 1 0))]) (fun x => [Ob.box [vS (ByteArray.mk #[]), AC.val (Cell.lit (Value.slice none 0
 0)), vI 0, vI 0], Ob.box (vals (bindingF (bstC (cnd L y.text y.scopes))))]) [], .mk (amb (cnd L y.text y.scopes) = false) .ret (fun x => [(4, SV.one (AC.ptr 0 0)), (5, hs x 1)])
 (fun x => [ho x 0]) [.o (Ob.box [vS (mkS []), AC.val (Cell.lit (Value.slice none 0 0)), vI 0, vI 0]), .s (li 2)]]
def lc_sResLa (L : List Binding) (y : Syntax) : Lp Nat := .mk 56 0 (fun x => [(4, SV.one (AC.ptr 0 0)), (6, ll (List.map bindingC (cnd L y.text y.scopes))), (7, SV.one (AC.ptr 1
 0)), (22, ll (List.map bindingC (cnd L y.text y.scopes))), (23, li (↑(List.map bindingC (cnd L y.text y.scopes)).length : Int)), (24, hs x 0)]) (fun x => [Ob.box [vS (ByteArray.mk
 #[]), AC.val (Cell.lit (Value.slice none 0 0)), vI 0, vI 0], ho x 1]) (fun k => [.s (li (↑k : Int)), .o (Ob.box (vals (bindingF (List.foldl bstG ((cnd L y.text y.scopes).getD 0
 default) (List.take k (cnd L y.text y.scopes))))))]) (fun k => k ≤ (cnd L y.text y.scopes).length ∧ (cnd L y.text y.scopes).length ≤ 9223372036854775807 ∧ 0 < (cnd L y.text
 y.scopes).length) (fun k => (cnd L y.text y.scopes).length - k) [.mk True (.exit 0) (fun x => [(4, SV.one (AC.ptr 0 0)), (6, ll (List.map bindingC (cnd L y.text y.scopes))), (7,
 SV.one (AC.ptr 1 0))]) (fun x => [Ob.box [vS (ByteArray.mk #[]), AC.val (Cell.lit (Value.slice none 0 0)), vI 0, vI 0], ho x 0]) [.o (Ob.box (vals (bindingF (bstC (cnd L y.text
 y.scopes)))))]]
theorem Sc_sResLb (L : List Binding) (y : Syntax) (h : L.length ≤ 1048577 ∧ sumBy wB L ≤ 1048577) : Lp.Sem Tryz.prog (loopAt Tryz.f118 1) (lc_sResLb L y) := lpOK (fun k => .i ((↑k
 : Int) < (↑(List.map bindingC (cnd L y.text y.scopes)).length : Int)) (.x (↑k : Int) (List.map bindingC (cnd L y.text y.scopes)) (bindingF ((cnd L y.text y.scopes).getD k
 default)) (.c [.rd, .rd] (c_sSub ((cnd L y.text y.scopes).getD k default).scopes (bstC (cnd L y.text y.scopes)).scopes) (.b (!subI ((cnd L y.text y.scopes).getD k default).scopes
 (bstC (cnd L y.text y.scopes)).scopes) (.o 1 [0] [.o (Ob.box [vS (ByteArray.mk #[]), AC.val (Cell.lit (Value.slice none 0 0)), vI 0, vI 0]), .s (li 2)]) (.r ((↑k : Int) + 1) (.g
 [0, 1] (k + 1) [.s (li ((↑k : Int) + 1))]))))) (.o 0 [0, 1] [])) (by
  intro k h; try dsimp only [teasy, nthW, lc_sResLb] at h ⊢
  have g1 := @amb_stop (cnd L y.text y.scopes) k
  have g2 := @ambN_step (cnd L y.text y.scopes) k
  have g3 := @ambN_end (cnd L y.text y.scopes) k
  with_reducible repeat' (first | apply And.intro | exact zR | (intro; skip) | apply c_sCand | apply c_sCopyB)
  all_goals (try simp only [std, inj] at *)
  all_goals with_reducible repeat' apply And.intro
  all_goals (try (first | with_reducible apply c_sCand | with_reducible apply c_sCopyB | (simp only [← List.map_append]; first | with_reducible apply c_sCand | with_reducible apply c_sCopyB)))
  all_goals (try (first | exact z | grind [snocI, snocS, rowSnoc])))
theorem Sc_sResLa (L : List Binding) (y : Syntax) (h : L.length ≤ 1048577 ∧ sumBy wB L ≤ 1048577) : Lp.Sem Tryz.prog (loopAt Tryz.f118 0) (lc_sResLa L y) := lpOK (fun k => .i ((↑k
 : Int) < (↑(List.map bindingC (cnd L y.text y.scopes)).length : Int)) (.x (↑k : Int) (List.map bindingC (cnd L y.text y.scopes)) (bindingF ((cnd L y.text y.scopes).getD k
 default)) (.z intC ((cnd L y.text y.scopes).getD k default).scopes (.z intC (List.foldl bstG ((cnd L y.text y.scopes).getD 0 default) (List.take k (cnd L y.text y.scopes))).scopes
 (.i ((↑(List.map intC (List.foldl bstG ((cnd L y.text y.scopes).getD 0 default) (List.take k (cnd L y.text y.scopes))).scopes).length : Int) < (↑(List.map intC ((cnd L y.text
 y.scopes).getD k default).scopes).length : Int)) (.r ((↑k : Int) + 1) (.g [0, 1] (k + 1) [.s (li ((↑k : Int) + 1)), .o (Ob.box (vals (bindingF ((cnd L y.text y.scopes).getD k
 default))))])) (.r ((↑k : Int) + 1) (.g [0, 1] (k + 1) [.s (li ((↑k : Int) + 1)), .o (Ob.box (vals (bindingF (List.foldl bstG ((cnd L y.text y.scopes).getD 0 default) (List.take k
 (cnd L y.text y.scopes))))))])))))) (.o 0 [0, 1] [.o (Ob.box (vals (bindingF (List.foldl bstG ((cnd L y.text y.scopes).getD 0 default) (List.take k (cnd L y.text y.scopes))))))]))
 (by
  intro k h; try dsimp only [teasy, nthW, lc_sResLa] at h ⊢
  have g1 := @foldl_step _ _ _ bstG ((cnd L y.text y.scopes).getD 0 default) (cnd L y.text y.scopes) k
  have g2 : ∀ a b, bstG a b = if a.scopes.length < b.scopes.length then b else a := fun _ _ => rfl
  have g3 : (cnd L y.text y.scopes).length ≤ k → (cnd L y.text y.scopes).take k = cnd L y.text y.scopes := fun h => List.take_of_length_le h
  have g4 : bstC (cnd L y.text y.scopes) = (cnd L y.text y.scopes).foldl bstG ((cnd L y.text y.scopes).getD 0 default) := rfl
  with_reducible repeat' (first | apply And.intro | exact zR | (intro; skip) | apply c_sCand | apply c_sCopyB)
  all_goals (try simp only [std, inj] at *)
  all_goals with_reducible repeat' apply And.intro
  all_goals (try (first | with_reducible apply c_sCand | with_reducible apply c_sCopyB | (simp only [← List.map_append]; first | with_reducible apply c_sCand | with_reducible apply c_sCopyB)))
  all_goals (try (first | exact z | grind [snocI, snocS, rowSnoc])))
theorem c_sRes (L : List Binding) (y : Syntax) (h : L.length ≤ 1048577 ∧ sumBy wB L ≤ 1048577)  : P_c_sRes L y := fnOK Tryz.call118 Tryz.func118 (.d [.rd, .rd] (P_c_sCand L y) (.z
 bindingC (cnd L y.text y.scopes) (.i ((↑(List.map bindingC (cnd L y.text y.scopes)).length : Int) = 0) (.w (.ghost (.nilbox 1 1 true 1)) (.w (.ghost (.lock 2)) (.f [] [] (AV.tup
 [SV.agg [vS (ByteArray.mk #[]), vL [], vI 0, vI 0], li 0])))) (.w (.cells (bindingF ((cnd L y.text y.scopes).getD 0 default))) (.p ((0 : Int) ≤ 0 ∧ (List.map bindingC (cnd L
 y.text y.scopes))[0]? = some (bindingF ((cnd L y.text y.scopes).getD 0 default))) (.z bindingC (cnd L y.text y.scopes) (.l (lc_sResLa L y) (Sc_sResLa L y h) [1, 2] [.s (li 0), .o
 (Ob.box (vals (bindingF ((cnd L y.text y.scopes).getD 0 default))))] 0 (.t (.z bindingC (cnd L y.text y.scopes) (.l (lc_sResLb L y) (Sc_sResLb L y h) [0, 1] [.s (li 0)] 0 (.t (.d
 [.rd] (P_c_sCopyB [bstC (cnd L y.text y.scopes)]) (.p ((0 : Int) ≤ 0 ∧ 0 < 1) (.w (.cells (bindingF (bstC (cnd L y.text y.scopes)))) (.p (some (bindingF (bstC (cnd L y.text
 y.scopes))) = some (bindingF (bstC (cnd L y.text y.scopes)))) (.w (.ghost (.lock 3)) (.f [] [] (AV.tup [SV.agg (vals (bindingF (bstC (cnd L y.text y.scopes)))), li 1]))))))) (.t
 (.w (.ghost (.nilbox 0 1 true 1)) (.w (.ghost (.lock 1)) (.f [] [] (AV.tup [SV.agg [vS (mkS []), vL [], vI 0, vI 0], li 2])))) .q)))) .q)))))))) (by
  dsimp only [teasy, P_c_sRes, nthW, lc_sResLa, lc_sResLb]
  have g1 : 0 < (cnd L y.text y.scopes).length → cnd L y.text y.scopes ≠ [] := fun h => List.length_pos_iff.1 h
  have g2 : (cnd L y.text y.scopes).length = 0 → cnd L y.text y.scopes = [] := fun h => List.length_eq_zero_iff.1 h
  have g3 := @bstC_w L y.text y.scopes
  have g4 : rsC L y.text y.scopes = if cnd L y.text y.scopes = [] then 0 else if amb (cnd L y.text y.scopes) = true then 1 else 2 := rfl
  have g5 : rsC L y.text y.scopes = 1 → rsB L y.text y.scopes = bstC (cnd L y.text y.scopes) := fun h => if_pos h
  have g6 : ¬ rsC L y.text y.scopes = 1 → rsB L y.text y.scopes = ⟨mkS [], [], 0, 0⟩ := fun h => if_neg h
  have g7 : ambN (cnd L y.text y.scopes) 0 = true := rfl
  have g8 : ∀ b : Binding, [b].getD 0 default = b := fun b => rfl
  have g9 : sumBy wB [bstC (cnd L y.text y.scopes)] = wB (bstC (cnd L y.text y.scopes)) := rfl
  have p1 : ¬ rsC L y.text y.scopes = 1 → SV.agg [vS (mkS []), vL [], vI 0, vI 0] = SV.agg (vals (bindingF (rsB L y.text y.scopes))) := fun h => by rw [g6 h]; rfl
  have p2 : rsC L y.text y.scopes = 1 → SV.agg [vS (bstC (cnd L y.text y.scopes)).text, vL ((bstC (cnd L y.text y.scopes)).scopes.map intC), vI (bstC (cnd L y.text y.scopes)).kind, vI (bstC (cnd L y.text y.scopes)).number] = SV.agg (vals (bindingF (rsB L y.text y.scopes))) := fun h => by rw [g5 h]; rfl
  with_reducible repeat' (first | apply And.intro | exact zR | (intro; skip) | apply c_sCand | apply c_sCopyB)
  all_goals (try simp only [std, inj] at *)
  all_goals with_reducible repeat' apply And.intro
  all_goals (try (first | with_reducible apply c_sCand | with_reducible apply c_sCopyB | (simp only [← List.map_append]; first | with_reducible apply c_sCand | with_reducible apply c_sCopyB)))
  all_goals (try (first | exact z | grind [snocI, snocS, rowSnoc])))
def bsI (L : List Binding) (t : ByteArray) (s : List Int) : Nat → Int
  | 0 => -1
  | k + 1 => if cndP t s (L.getD k default) = true ∧ (bsI L t s k < 0 ∨ (L.getD (bsI L t s k).toNat default).scopes.length < (L.getD k default).scopes.length) then (k : Int) else bsI L t s k
theorem bsI_of (L : List Binding) (t : ByteArray) (s : List Int) : ∀ k, k ≤ L.length → -1 ≤ bsI L t s k ∧ bsI L t s k < k ∧ (bsI L t s k < 0 ↔ cnd (L.take k) t s = []) ∧ (0 ≤ bsI L t s k → L.getD (bsI L t s k).toNat default = bstC (cnd (L.take k) t s))
  | 0, _ => by simp [bsI, cnd]
  | k + 1, hk => by
    obtain ⟨h1, h2, h3, h4⟩ := bsI_of L t s k (by omega)
    have e := @cnd_step L t s k (by omega)
    simp only [bsI]
    by_cases c : cndP t s (L.getD k default) = true
    · rw [if_pos c] at e
      by_cases c2 : bsI L t s k < 0
      · rw [if_pos ⟨c, .inl c2⟩, e, h3.1 c2]
        refine ⟨by omega, by omega, ⟨fun h => by omega, fun h => by simp at h⟩, fun _ => ?_⟩
        rw [Int.toNat_natCast, List.nil_append, bstC_one]
      · have hne : cnd (L.take k) t s ≠ [] := fun h => c2 (h3.2 h)
        have hb := h4 (by omega)
        by_cases c3 : (L.getD (bsI L t s k).toNat default).scopes.length < (L.getD k default).scopes.length
        · rw [if_pos ⟨c, .inr c3⟩, e]
          refine ⟨by omega, by omega, ⟨fun h => by omega, fun h => by simp at h⟩, fun _ => ?_⟩
          rw [Int.toNat_natCast, bstC_snoc _ hne, bstG, if_pos (by rw [← hb]; exact c3)]
        · rw [if_neg (by rintro ⟨_, h | h⟩ <;> contradiction), e]
          refine ⟨h1, by omega, ⟨fun h => absurd h c2, fun h => by simp at h⟩, fun _ => ?_⟩
          rw [bstC_snoc _ hne, bstG, if_neg (by rw [← hb]; exact c3)]; exact hb
    · rw [if_neg (fun h => c h.1), e, if_neg c]
      exact ⟨h1, by omega, h3, h4⟩
def ambL (L : List Binding) (t : ByteArray) (s : List Int) (k : Nat) : Bool := (L.take k).all fun b => !cndP t s b || subI b.scopes (bstC (cnd L t s)).scopes
theorem ambL_step {L : List Binding} {t : ByteArray} {s : List Int} {k : Nat} (hk : k < L.length) (h0 : ambL L t s k = true) (h : cndP t s (L.getD k default) = false ∨ subI (L.getD k default).scopes (bstC (cnd L t s)).scopes = true) : ambL L t s (k + 1) = true := by
  unfold ambL at *; rw [take_get hk, List.all_append, h0]; simpa using h
theorem ambL_end {L : List Binding} {t : ByteArray} {s : List Int} {k : Nat} (hk : L.length ≤ k) (h0 : ambL L t s k = true) : amb (cnd L t s) = true := by
  unfold ambL at h0; rw [List.take_of_length_le hk, List.all_eq_true] at h0
  unfold amb; rw [List.all_eq_true]
  intro x hx
  have h1 := List.mem_filter.1 hx
  have := h0 x h1.1
  rw [h1.2] at this; simpa using this
theorem ambL_stop {L : List Binding} {t : ByteArray} {s : List Int} {k : Nat} (hk : k < L.length) (h1 : cndP t s (L.getD k default) = true) (h : subI (L.getD k default).scopes (bstC (cnd L t s)).scopes = false) : amb (cnd L t s) = false := by
  unfold amb; rw [List.all_eq_false]; exact ⟨_, List.mem_filter.2 ⟨getD_mem' hk, h1⟩, by rw [h]; decide⟩
abbrev P_c_iRes (L : List Binding) (y : Syntax) : Ct := ⟨97, [], [ll (L.map bindingC), syntaxA y], bindingO (rsB L y.text y.scopes), .tup [bindingR (rsB L y.text y.scopes) 0, li (rsC L y.text y.scopes)]⟩
def lc_iResLb (L : List Binding) (y : Syntax) : Lp Nat := .mk 87 0 (fun x => [(0, ll (List.map bindingC L)), (3, SV.one (AC.ptr 0 0)), (4, SV.one (AC.ptr 1 0)), (6, li (bsI L
 y.text y.scopes L.length)), (51, ll (List.map bindingC L)), (52, li (↑(List.map bindingC L).length : Int)), (53, hs x 0)]) (fun x => [Ob.box (vals (syntaxF y)), Ob.box [vS
 (ByteArray.mk #[]), AC.val (Cell.lit (Value.slice none 0 0)), vI 0, vI 0]]) (fun k => [.s (li (↑k : Int))]) (fun k => k ≤ L.length ∧ L.length ≤ 9223372036854775807 ∧ 0 ≤ bsI L
 y.text y.scopes L.length ∧ ambL L y.text y.scopes k = true) (fun k => L.length - k) [.mk (amb (cnd L y.text y.scopes) = true) (.exit 2) (fun x => [(0, ll (List.map bindingC L)),
 (4, SV.one (AC.ptr 0 0)), (6, li (bsI L y.text y.scopes L.length))]) (fun x => [Ob.box [vS (ByteArray.mk #[]), AC.val (Cell.lit (Value.slice none 0 0)), vI 0, vI 0]]) [], .mk (amb
 (cnd L y.text y.scopes) = false) .ret (fun x => [(4, SV.one (AC.ptr 0 0)), (5, hs x 1)]) (fun x => [ho x 0]) [.o (Ob.box [vS (mkS []), AC.val (Cell.lit (Value.slice none 0 0)), vI
 0, vI 0]), .s (li 2)]]
def lc_iResLa (L : List Binding) (y : Syntax) : Lp Nat := .mk 87 0 (fun x => [(0, ll (List.map bindingC L)), (3, SV.one (AC.ptr 0 0)), (4, SV.one (AC.ptr 1 0)), (6, hs x 1), (11,
 ll (List.map bindingC L)), (12, li (↑(List.map bindingC L).length : Int)), (13, hs x 0)]) (fun x => [Ob.box (vals (syntaxF y)), Ob.box [vS (ByteArray.mk #[]), AC.val (Cell.lit
 (Value.slice none 0 0)), vI 0, vI 0]]) (fun k => [.s (li (↑k : Int)), .s (li (bsI L y.text y.scopes k))]) (fun k => k ≤ L.length ∧ L.length ≤ 9223372036854775807) (fun k =>
 L.length - k) [.mk True (.exit 0) (fun x => [(0, ll (List.map bindingC L)), (3, SV.one (AC.ptr 0 0)), (4, SV.one (AC.ptr 1 0)), (6, hs x 0)]) (fun x => [Ob.box (vals (syntaxF y)),
 Ob.box [vS (ByteArray.mk #[]), AC.val (Cell.lit (Value.slice none 0 0)), vI 0, vI 0]]) [.s (li (bsI L y.text y.scopes L.length))]]
theorem Sc_iResLb (L : List Binding) (y : Syntax) (h : L.length ≤ 1048577 ∧ sumBy wB L ≤ 1048577) : Lp.Sem Tryz.prog (loopAt Tryz.f97 1) (lc_iResLb L y) := lpOK (fun k => .i ((↑k :
 Int) < (↑(List.map bindingC L).length : Int)) (.x (↑k : Int) (List.map bindingC L) (bindingF (L.getD k default)) (.w (.draw []) (.i ((L.getD k default).text.data.toList =
 y.text.data.toList) (.c [.rd, .rd] (c_iSub (L.getD k default).scopes y.scopes) (.b (subI (L.getD k default).scopes y.scopes) (.x (bsI L y.text y.scopes L.length) (List.map
 bindingC L) (bindingF (L.getD (bsI L y.text y.scopes L.length).toNat default)) (.c [.rd, .rd] (c_iSub (L.getD k default).scopes (L.getD (bsI L y.text y.scopes L.length).toNat
 default).scopes) (.b (!subI (L.getD k default).scopes (L.getD (bsI L y.text y.scopes L.length).toNat default).scopes) (.o 1 [1] [.o (Ob.box [vS (ByteArray.mk #[]), AC.val
 (Cell.lit (Value.slice none 0 0)), vI 0, vI 0]), .s (li 2)]) (.r ((↑k : Int) + 1) (.g [0, 1] (k + 1) [.s (li ((↑k : Int) + 1))]))))) (.y false (.r ((↑k : Int) + 1) (.g [0, 1] (k +
 1) [.s (li ((↑k : Int) + 1))]))))) (.y false (.y false (.r ((↑k : Int) + 1) (.g [0, 1] (k + 1) [.s (li ((↑k : Int) + 1))]))))))) (.o 0 [1] [])) (by
  intro k h; try dsimp only [teasy, nthW, lc_iResLb] at h ⊢
  have g1 := bsI_of L y.text y.scopes L.length
  have g2 : L.take L.length = L := List.take_length
  have g3 := @ambL_step L y.text y.scopes k
  have g4 := @ambL_end L y.text y.scopes k
  have g5 := @ambL_stop L y.text y.scopes k
  with_reducible repeat' (first | apply And.intro | exact zR | (intro; skip) | apply c_iCopyB1)
  all_goals (try simp only [std, inj] at *)
  all_goals with_reducible repeat' apply And.intro
  all_goals (try (first | with_reducible apply c_iCopyB1 | (simp only [← List.map_append]; first | with_reducible apply c_iCopyB1)))
  all_goals (try (first | exact z | grind [cndP, bytes_ext, snocI, snocS, rowSnoc])))
theorem Sc_iResLa (L : List Binding) (y : Syntax) (h : L.length ≤ 1048577 ∧ sumBy wB L ≤ 1048577) : Lp.Sem Tryz.prog (loopAt Tryz.f97 0) (lc_iResLa L y) := lpOK (fun k => .i ((↑k :
 Int) < (↑(List.map bindingC L).length : Int)) (.x (↑k : Int) (List.map bindingC L) (bindingF (L.getD k default)) (.w (.draw []) (.i ((L.getD k default).text.data.toList =
 y.text.data.toList) (.c [.rd, .rd] (c_iSub (L.getD k default).scopes y.scopes) (.b (subI (L.getD k default).scopes y.scopes) (.i (bsI L y.text y.scopes k < 0) (.y true (.r ((↑k :
 Int) + 1) (.g [0, 1] (k + 1) [.s (li ((↑k : Int) + 1)), .s (li (↑k : Int))]))) (.x (bsI L y.text y.scopes k) (List.map bindingC L) (bindingF (L.getD (bsI L y.text y.scopes
 k).toNat default)) (.z intC (L.getD k default).scopes (.z intC (L.getD (bsI L y.text y.scopes k).toNat default).scopes (.i ((↑(List.map intC (L.getD (bsI L y.text y.scopes
 k).toNat default).scopes).length : Int) < (↑(List.map intC (L.getD k default).scopes).length : Int)) (.r ((↑k : Int) + 1) (.g [0, 1] (k + 1) [.s (li ((↑k : Int) + 1)), .s (li (↑k
 : Int))])) (.r ((↑k : Int) + 1) (.g [0, 1] (k + 1) [.s (li ((↑k : Int) + 1)), .s (li (bsI L y.text y.scopes k))]))))))) (.y false (.r ((↑k : Int) + 1) (.g [0, 1] (k + 1) [.s (li
 ((↑k : Int) + 1)), .s (li (bsI L y.text y.scopes k))]))))) (.y false (.y false (.r ((↑k : Int) + 1) (.g [0, 1] (k + 1) [.s (li ((↑k : Int) + 1)), .s (li (bsI L y.text y.scopes
 k))]))))))) (.o 0 [0, 1] [.s (li (bsI L y.text y.scopes k))])) (by
  intro k h; try dsimp only [teasy, nthW, lc_iResLa] at h ⊢
  have g1 := bsI_of L y.text y.scopes k
  have g2 : bsI L y.text y.scopes (k + 1) = if cndP y.text y.scopes (L.getD k default) = true ∧ (bsI L y.text y.scopes k < 0 ∨ (L.getD (bsI L y.text y.scopes k).toNat default).scopes.length < (L.getD k default).scopes.length) then (k : Int) else bsI L y.text y.scopes k := rfl
  with_reducible repeat' (first | apply And.intro | exact zR | (intro; skip) | apply c_iCopyB1)
  all_goals (try simp only [std, inj] at *)
  all_goals with_reducible repeat' apply And.intro
  all_goals (try (first | with_reducible apply c_iCopyB1 | (simp only [← List.map_append]; first | with_reducible apply c_iCopyB1)))
  all_goals (try (first | exact z | grind [cndP, bytes_ext, snocI, snocS, rowSnoc])))
theorem c_iRes (L : List Binding) (y : Syntax) (h : L.length ≤ 1048577 ∧ sumBy wB L ≤ 1048577)  : P_c_iRes L y := fnOK Tryz.call97 Tryz.func97 (.z bindingC L (.l (lc_iResLa L y)
 (Sc_iResLa L y h) [0, 1] [.s (li 0), .s (li (-1 : Int))] 0 (.t (.i (bsI L y.text y.scopes L.length < 0) (.w (.ghost (.nilbox 1 1 true 1)) (.f [2] [Ob.arr true 1 []] (AV.tup
 [SV.agg [vS (ByteArray.mk #[]), AC.ref 0, vI 0, vI 0], li 0]))) (.z bindingC L (.l (lc_iResLb L y) (Sc_iResLb L y h) [0, 1] [.s (li 0)] 0 (.t (.x (bsI L y.text y.scopes L.length)
 (List.map bindingC L) (bindingF (L.getD (bsI L y.text y.scopes L.length).toNat default)) (.d [.rd] (P_c_iCopyB1 (L.getD (bsI L y.text y.scopes L.length).toNat default)) (.f [1]
 [Ob.arr true 1 (List.map intC (L.getD (bsI L y.text y.scopes L.length).toNat default).scopes)] (AV.tup [SV.agg [vS (L.getD (bsI L y.text y.scopes L.length).toNat default).text,
 AC.ref 0, vI (L.getD (bsI L y.text y.scopes L.length).toNat default).kind, vI (L.getD (bsI L y.text y.scopes L.length).toNat default).number], li 1])))) (.t (.w (.ghost (.nilbox 0
 1 true 1)) (.f [1] [Ob.arr true 1 []] (AV.tup [SV.agg [vS (mkS []), AC.ref 0, vI 0, vI 0], li 2]))) .q))))) .q))) (by
  dsimp only [teasy, P_c_iRes, nthW, lc_iResLa, lc_iResLb]
  have g1 := bsI_of L y.text y.scopes L.length
  have g2 : L.take L.length = L := List.take_length
  have g3 := @bstC_w L y.text y.scopes
  have g4 : rsC L y.text y.scopes = if cnd L y.text y.scopes = [] then 0 else if amb (cnd L y.text y.scopes) = true then 1 else 2 := rfl
  have g5 : rsC L y.text y.scopes = 1 → rsB L y.text y.scopes = bstC (cnd L y.text y.scopes) := fun h => if_pos h
  have g6 : ¬ rsC L y.text y.scopes = 1 → rsB L y.text y.scopes = ⟨mkS [], [], 0, 0⟩ := fun h => if_neg h
  have g7 : ambL L y.text y.scopes 0 = true := rfl
  have g8 : bsI L y.text y.scopes 0 = -1 := rfl
  with_reducible repeat' (first | apply And.intro | exact zR | (intro; skip) | apply c_iCopyB1)
  all_goals (try simp only [std, inj] at *)
  all_goals with_reducible repeat' apply And.intro
  all_goals (try (first | with_reducible apply c_iCopyB1 | (simp only [← List.map_append]; first | with_reducible apply c_iCopyB1)))
  all_goals (try (first | exact z | grind [snocI, snocS, rowSnoc])))
def frm (L : List Binding) (s : Syntax) : Int := if s.kind = 1 ∧ rsC L s.text s.scopes = 1 ∧ (rsB L s.text s.scopes).kind = 1 then (rsB L s.text s.scopes).number else -1
abbrev P_c_sHead (L : List Binding) (s : Syntax) (n : Int) : Ct := ⟨80, [], [ll (L.map bindingC), syntaxA s, li n], [], .sv (lb (decide (frm L s = n)))⟩
theorem c_sHead (L : List Binding) (s : Syntax) (n : Int) (h : L.length ≤ 1048577 ∧ sumBy wB L ≤ 1048577 ∧ 0 ≤ n)  : P_c_sHead L s n := fnOK Tryz.call80 Tryz.func80 (.i (s.kind ≠ 1)
 (.s (lb false)) (.d [.rd, .rd] (P_c_sRes L s) (.i (rsC L s.text s.scopes = 1) (.i ((rsB L s.text s.scopes).kind = 1) (.s (lb (decide ((rsB L s.text s.scopes).number = n)))) (.s
 (lb false))) (.y false (.s (lb false)))))) (by
  dsimp only [teasy, P_c_sHead]
  have g : frm L s = if s.kind = 1 ∧ rsC L s.text s.scopes = 1 ∧ (rsB L s.text s.scopes).kind = 1 then (rsB L s.text s.scopes).number else -1 := rfl
  with_reducible repeat' (first | apply And.intro | exact zR | (intro; skip) | apply c_sRes)
  all_goals (try simp only [std, inj] at *)
  all_goals with_reducible repeat' apply And.intro
  all_goals (try (first | with_reducible apply c_sRes | (simp only [← List.map_append]; first | with_reducible apply c_sRes)))
  all_goals (try (first | exact z | grind [snocI, snocS, rowSnoc])))
abbrev P_c_iForm (L : List Binding) (s : Syntax) : Ct := ⟨51, [], [ll (L.map bindingC), syntaxA s], [], .sv (li (frm L s))⟩
theorem c_iForm (L : List Binding) (s : Syntax) (h : L.length ≤ 1048577 ∧ sumBy wB L ≤ 1048577)  : P_c_iForm L s := fnOK Tryz.call51 Tryz.func51 (.i (s.kind ≠ 1) (.s (li (-1 : Int)))
 (.d [.rd, .rd] (P_c_iRes L s) (.i (rsC L s.text s.scopes ≠ 1) (.y true (.s (li (-1 : Int)))) (.i ((rsB L s.text s.scopes).kind ≠ 1) (.s (li (-1 : Int))) (.s (li (rsB L s.text
 s.scopes).number)))))) (by
  dsimp only [teasy, P_c_iForm]
  with_reducible repeat' (first | apply And.intro | exact zR | (intro; skip) | apply c_iRes)
  all_goals (try simp only [std, inj] at *)
  all_goals with_reducible repeat' apply And.intro
  all_goals (try (first | with_reducible apply c_iRes | (simp only [← List.map_append]; first | with_reducible apply c_iRes)))
  all_goals (try (first | exact z | grind [frm, snocI, snocS, rowSnoc])))
def clauP (x : Syntax) : Bool := decide (x.kind = 0) && decide ((x.items.length : Int) = 2)
def clauT (s : Syntax) (i k : Nat) : List Syntax := ((s.items.drop 2).take k).map fun x => x.items.getD i default
def clauI (s : Syntax) (i : Nat) : List Syntax := (s.items.drop 2).map fun x => x.items.getD i default
theorem clauT_step (s : Syntax) (i : Nat) {k : Nat} (h : k < (s.items.drop 2).length) : clauT s i (k + 1) = clauT s i k ++ [((s.items.drop 2).getD k default).items.getD i default] := by
  unfold clauT; rw [take_get h]; simp
theorem clauT_end (s : Syntax) (i : Nat) {k : Nat} (h : (s.items.drop 2).length ≤ k) : clauT s i k = clauI s i := by
  unfold clauT clauI; rw [List.take_of_length_le h]
theorem clauT_len (s : Syntax) (i k : Nat) : (clauT s i k).length ≤ k := by
  unfold clauT; rw [List.length_map, List.length_take]; exact Nat.min_le_left _ _
def prsR (s : Syntax) : Rules := ⟨(s.items.getD 1 default).items, clauI s 0, clauI s 1⟩
def prsB0 (L : List Binding) (s : Syntax) : Bool := decide (s.kind = 0) && decide (2 ≤ (s.items.length : Int)) && decide (frm L (s.items.getD 0 default) = 10) && decide ((s.items.getD 1 default).kind = 0) && (s.items.drop 2).all clauP && isRul (prsR s)
def prsO0 (L : List Binding) (s : Syntax) : Rules := if prsB0 L s = true then prsR s else ⟨[], [], []⟩
theorem clau_w : ∀ L : List Syntax, L.all clauP = true → 2 * L.length + sumBy wY (L.map fun x => x.items.getD 0 default) + sumBy wY (L.map fun x => x.items.getD 1 default) ≤ sumBy wY L
  | [], _ => Nat.le_refl _
  | x :: r, h => by
    simp only [List.all_cons, Bool.and_eq_true] at h
    have h1 := clau_w r h.2
    have h2 := wY_eq x
    have h3 := h.1
    simp only [clauP, Bool.and_eq_true, decide_eq_true_eq] at h3
    have e : sumBy wY x.items = wY (x.items.getD 0 default) + wY (x.items.getD 1 default) := by
      have a := @sumBy_drop _ _ wY x.items 0 (by omega)
      have b := @sumBy_drop _ _ wY x.items 1 (by omega)
      have c : sumBy wY (x.items.drop 2) = 0 := by rw [List.drop_eq_nil_of_le (by omega)]; rfl
      rw [List.drop_zero] at a
      simp only [Nat.zero_add, Nat.reduceAdd] at a b
      omega
    simp only [List.map_cons, sumBy, List.length_cons]; omega
theorem prsR_w {s : Syntax} (h2 : 2 ≤ s.items.length) (h : (s.items.drop 2).all clauP = true) : wR (prsR s) ≤ wY s := by
  have a0 := @sumBy_drop _ _ wY s.items 0 (by omega)
  have a1 := @sumBy_drop _ _ wY s.items 1 (by omega)
  rw [List.drop_zero] at a0
  simp only [Nat.zero_add, Nat.reduceAdd] at a0 a1
  have h3 := clau_w _ h
  have h4 := wY_eq s
  have h5 := wY_eq (s.items.getD 1 default)
  have h6 : (s.items.drop 2).length = s.items.length - 2 := List.length_drop
  rw [wR_eq]; simp only [prsR, clauI, List.length_map]; omega
theorem item_w (s : Syntax) (j : Nat) : wY (s.items.getD j default) ≤ wY s := by
  rcases Nat.lt_or_ge j s.items.length with h | h
  · have h1 := sumBy_mem wY (getD_mem' h)
    have h2 := wY_eq s
    omega
  · have e : s.items.getD j default = default := by simp [h]
    rw [e]; exact Nat.zero_le _
theorem all_stopY {L : List Syntax} {p : Syntax → Bool} {k : Nat} (h : k < L.length) (hp : p (L.getD k default) = false) : L.all p = false := by
  rw [List.all_eq_false]; exact ⟨_, getD_mem' h, by rw [hp]; decide⟩
abbrev P_c_iParse0 (L : List Binding) (s : Syntax) : Ct := ⟨23, [], [ll (L.map bindingC), syntaxA s], rulesO (prsO0 L s), .tup [rulesR (prsO0 L s) 0, lb (prsB0 L s)]⟩
def lc_iParse0La (L : List Binding) (s : Syntax) : Lp Nat := .mk 87 0 (fun x => [(4, SV.one (AC.ptr 0 0)), (6, SV.one (AC.ptr 1 0)), (45, ll (List.take ((List.map syntaxC
 s.items).length - 2) (List.drop 2 (List.map syntaxC s.items)))), (46, li (↑(List.take ((List.map syntaxC s.items).length - 2) (List.drop 2 (List.map syntaxC s.items))).length :
 Int)), (47, hs x 0)]) (fun x => [Ob.box [AC.val (Cell.lit (Value.slice none 0 0)), AC.val (Cell.lit (Value.slice none 0 0)), AC.val (Cell.lit (Value.slice none 0 0))], Ob.box
 [AC.ref 2, AC.ref 3, AC.ref 4], Ob.arr true 5 (List.map syntaxC (s.items.getD 1 default).items), ho x 1, ho x 2]) (fun k => [.s (li (↑k : Int)), .o (Ob.arr true 5 (List.map
 syntaxC (clauT s 0 k))), .o (Ob.arr true 5 (List.map syntaxC (clauT s 1 k)))]) (fun k => k ≤ (List.drop 2 s.items).length ∧ 2 ≤ s.items.length ∧ s.items.length ≤ 1048576 ∧
 (List.take k (List.drop 2 s.items)).all clauP = true) (fun k => (List.drop 2 s.items).length - k) [.mk ((List.drop 2 s.items).all clauP = true) (.exit 0) (fun x => [(4, SV.one
 (AC.ptr 0 0)), (6, SV.one (AC.ptr 1 0))]) (fun x => [Ob.box [AC.val (Cell.lit (Value.slice none 0 0)), AC.val (Cell.lit (Value.slice none 0 0)), AC.val (Cell.lit (Value.slice none
 0 0))], Ob.box [AC.ref 2, AC.ref 3, AC.ref 4], Ob.arr true 5 (List.map syntaxC (s.items.getD 1 default).items), ho x 0, ho x 1]) [.o (Ob.arr true 5 (List.map syntaxC (clauI s
 0))), .o (Ob.arr true 5 (List.map syntaxC (clauI s 1)))], .mk ((List.drop 2 s.items).all clauP = false) .ret (fun x => [(4, SV.one (AC.ptr 0 0)), (5, hs x 1)]) (fun x => [ho x 0])
 [.o (Ob.box [AC.val (Cell.lit (Value.slice none 0 0)), AC.val (Cell.lit (Value.slice none 0 0)), AC.val (Cell.lit (Value.slice none 0 0))]), .s (lb false)]]
theorem Sc_iParse0La (L : List Binding) (s : Syntax) (h : L.length ≤ 1048577 ∧ sumBy wB L ≤ 1048577 ∧ wY s ≤ 1048576) : Lp.Sem Tryz.prog (loopAt Tryz.f23 0) (lc_iParse0La L s) :=
 lpOK (fun k => .i ((↑k : Int) < (↑(List.take ((List.map syntaxC s.items).length - 2) (List.drop 2 (List.map syntaxC s.items))).length : Int)) (.x (↑k : Int) (List.take ((List.map
 syntaxC s.items).length - 2) (List.drop 2 (List.map syntaxC s.items))) (syntaxF ((List.take ((List.map syntaxC s.items).length - 2) (List.drop 2 s.items)).getD k default)) (.i
 (((List.take ((List.map syntaxC s.items).length - 2) (List.drop 2 s.items)).getD k default).kind ≠ 0) (.y true (.o 1 [0] [.o (Ob.box [AC.val (Cell.lit (Value.slice none 0 0)),
 AC.val (Cell.lit (Value.slice none 0 0)), AC.val (Cell.lit (Value.slice none 0 0))]), .s (lb false)])) (.z syntaxC ((List.take ((List.map syntaxC s.items).length - 2) (List.drop 2
 s.items)).getD k default).items (.i ((↑(List.map syntaxC ((List.take ((List.map syntaxC s.items).length - 2) (List.drop 2 s.items)).getD k default).items).length : Int) ≠ 2) (.o 1
 [0] [.o (Ob.box [AC.val (Cell.lit (Value.slice none 0 0)), AC.val (Cell.lit (Value.slice none 0 0)), AC.val (Cell.lit (Value.slice none 0 0))]), .s (lb false)]) (.w (.draw [(7,
 [6, 7]), (8, [3, 14]), (10, [1])]) (.w (.cells (syntaxF (((List.take ((List.map syntaxC s.items).length - 2) (List.drop 2 s.items)).getD k default).items.getD 0 default))) (.p ((0
 : Int) ≤ 0 ∧ (List.map syntaxC ((List.take ((List.map syntaxC s.items).length - 2) (List.drop 2 s.items)).getD k default).items)[0]? = some (syntaxF (((List.take ((List.map
 syntaxC s.items).length - 2) (List.drop 2 s.items)).getD k default).items.getD 0 default))) (.d [.rd] (P_c_iCopyY (((List.take ((List.map syntaxC s.items).length - 2) (List.drop 2
 s.items)).getD k default).items.getD 0 default)) (.p (((List.map syntaxC (clauT s 0 k)).length + 1) * 80 ≤ 140737488355328) (.w (.draw [(7, [16, 17]), (8, [4, 24]), (10, [1])])
 (.w (.cells (syntaxF (((List.take ((List.map syntaxC s.items).length - 2) (List.drop 2 s.items)).getD k default).items.getD 1 default))) (.p ((0 : Int) ≤ 1 ∧ (List.map syntaxC
 ((List.take ((List.map syntaxC s.items).length - 2) (List.drop 2 s.items)).getD k default).items)[1]? = some (syntaxF (((List.take ((List.map syntaxC s.items).length - 2)
 (List.drop 2 s.items)).getD k default).items.getD 1 default))) (.d [.rd] (P_c_iCopyY (((List.take ((List.map syntaxC s.items).length - 2) (List.drop 2 s.items)).getD k
 default).items.getD 1 default)) (.p (((List.map syntaxC (clauT s 1 k)).length + 1) * 80 ≤ 140737488355328) (.r ((↑k : Int) + 1) (.g [0, 1, 2, 15, 25] (k + 1) [.s (li ((↑k : Int) +
 1)), .o (Ob.arr true 5 (List.map syntaxC (clauT s 0 k) ++ [syntaxF (((List.take ((List.map syntaxC s.items).length - 2) (List.drop 2 s.items)).getD k default).items.getD 0
 default)])), .o (Ob.arr true 5 (List.map syntaxC (clauT s 1 k) ++ [syntaxF (((List.take ((List.map syntaxC s.items).length - 2) (List.drop 2 s.items)).getD k default).items.getD 1
 default)]))])))))))))))))))) (.o 0 [0, 1, 2, 3, 4] [.o (Ob.arr true 5 (List.map syntaxC (clauT s 0 k))), .o (Ob.arr true 5 (List.map syntaxC (clauT s 1 k)))])) (by
  intro k h; try dsimp only [teasy, nthW, lc_iParse0La] at h ⊢
  have g1 := @clauT_step s 0 k
  have g2 := @clauT_step s 1 k
  have g3 := @clauT_end s 0 k
  have g4 := @clauT_end s 1 k
  have g5 := clauT_len s 0 k
  have g6 := clauT_len s 1 k
  have g7 := @all_stopY (s.items.drop 2) clauP k
  have g8 := @take_get _ _ (s.items.drop 2) k
  have e : (s.items.drop 2).take (s.items.length - 2) = s.items.drop 2 := List.take_of_length_le (by rw [List.length_drop]; omega)
  have e2 : (s.items.drop 2).length = s.items.length - 2 := List.length_drop
  have e3 : k < (s.items.drop 2).length → wY ((s.items.drop 2).getD k default) ≤ wY s := fun h => by have := @sumBy_mem _ wY s.items _ (List.mem_of_mem_drop (getD_mem' h)); have := wY_eq s; omega
  have e4 := wY_eq ((s.items.drop 2).getD k default)
  have e5 : ∀ j, j < ((s.items.drop 2).getD k default).items.length → wY (((s.items.drop 2).getD k default).items.getD j default) ≤ wY ((s.items.drop 2).getD k default) := fun j h => by have := @sumBy_mem _ wY _ _ (getD_mem' h); omega
  have e6 : clauP ((s.items.drop 2).getD k default) = (decide (((s.items.drop 2).getD k default).kind = 0) && decide ((((s.items.drop 2).getD k default).items.length : Int) = 2)) := rfl
  have e7 : (s.items.drop 2).length ≤ k → (s.items.drop 2).take k = s.items.drop 2 := fun h => List.take_of_length_le h
  with_reducible repeat' (first | apply And.intro | exact zR | (intro; skip) | apply c_iForm | apply c_iCopyYs | apply c_iCopyY | apply c_iIsRules)
  all_goals (try simp only [std, inj] at *)
  all_goals with_reducible repeat' apply And.intro
  all_goals (try (first | with_reducible apply c_iForm | with_reducible apply c_iCopyYs | with_reducible apply c_iCopyY | with_reducible apply c_iIsRules | (simp only [← List.map_append]; first | with_reducible apply c_iForm | with_reducible apply c_iCopyYs | with_reducible apply c_iCopyY | with_reducible apply c_iIsRules)))
  all_goals (try (first | exact z | grind [snocI, snocS, rowSnoc])))
theorem c_iParse0 (L : List Binding) (s : Syntax) (h : L.length ≤ 1048577 ∧ sumBy wB L ≤ 1048577 ∧ wY s ≤ 1048576)  : P_c_iParse0 L s := fnOK Tryz.call23 Tryz.func23 (.i (s.kind ≠ 0)
 (.y true (.y true (.y true (.w (.ghost (.nilbox 1 0 true 5)) (.w (.ghost (.nilbox 1 1 true 5)) (.w (.ghost (.nilbox 1 2 true 5)) (.f [2, 3, 4] [Ob.arr true 5 [], Ob.arr true 5 [],
 Ob.arr true 5 []] (AV.tup [SV.agg [AC.ref 0, AC.ref 1, AC.ref 2], lb false])))))))) (.z syntaxC s.items (.i ((↑(List.map syntaxC s.items).length : Int) < 2) (.y true (.y true (.w
 (.ghost (.nilbox 1 0 true 5)) (.w (.ghost (.nilbox 1 1 true 5)) (.w (.ghost (.nilbox 1 2 true 5)) (.f [2, 3, 4] [Ob.arr true 5 [], Ob.arr true 5 [], Ob.arr true 5 []] (AV.tup
 [SV.agg [AC.ref 0, AC.ref 1, AC.ref 2], lb false]))))))) (.w (.cells (syntaxF (s.items.getD 0 default))) (.p ((0 : Int) ≤ 0 ∧ (List.map syntaxC s.items)[0]? = some (syntaxF
 (s.items.getD 0 default))) (.d [.rd, .rd] (P_c_iForm L (s.items.getD 0 default)) (.i (frm L (s.items.getD 0 default) ≠ 10) (.y true (.w (.ghost (.nilbox 1 0 true 5)) (.w (.ghost
 (.nilbox 1 1 true 5)) (.w (.ghost (.nilbox 1 2 true 5)) (.f [2, 3, 4] [Ob.arr true 5 [], Ob.arr true 5 [], Ob.arr true 5 []] (AV.tup [SV.agg [AC.ref 0, AC.ref 1, AC.ref 2], lb
 false])))))) (.w (.cells (syntaxF (s.items.getD 1 default))) (.p ((0 : Int) ≤ 1 ∧ (List.map syntaxC s.items)[1]? = some (syntaxF (s.items.getD 1 default))) (.i ((s.items.getD 1
 default).kind ≠ 0) (.w (.ghost (.nilbox 1 0 true 5)) (.w (.ghost (.nilbox 1 1 true 5)) (.w (.ghost (.nilbox 1 2 true 5)) (.f [2, 3, 4] [Ob.arr true 5 [], Ob.arr true 5 [], Ob.arr
 true 5 []] (AV.tup [SV.agg [AC.ref 0, AC.ref 1, AC.ref 2], lb false]))))) (.w (.cells (syntaxF (s.items.getD 1 default))) (.p ((0 : Int) ≤ 1 ∧ (List.map syntaxC s.items)[1]? =
 some (syntaxF (s.items.getD 1 default))) (.d [.rd] (P_c_iCopyYs (s.items.getD 1 default).items) (.p ((0 : Int) ≤ 2) (.p (2 ≤ (List.map syntaxC s.items).length ∧ (List.map syntaxC
 s.items).length ≤ (List.map syntaxC s.items).length ∧ ∀ (e : List Cell), e ∈ List.map syntaxC s.items → e.length = 5) (.h ((List.take ((List.map syntaxC s.items).length - 2)
 (List.drop 2 (List.map syntaxC s.items))).length ≤ 9223372036854775807) (.w (.ghost (.nilbox 3 1 true 5)) (.w (.ghost (.nilbox 3 2 true 5)) (.l (lc_iParse0La L s) (Sc_iParse0La L
 s h) [1, 3, 2, 4, 5] [.s (li 0), .o (Ob.arr true 5 []), .o (Ob.arr true 5 [])] 0 (.t (.d [.rd] (P_c_iIsRules (Rules.mk (s.items.getD 1 default).items (clauI s 0) (clauI s 1))) (.b
 (!isRul (Rules.mk (s.items.getD 1 default).items (clauI s 0) (clauI s 1))) (.w (.ghost (.nilbox 0 0 true 5)) (.w (.ghost (.nilbox 0 1 true 5)) (.w (.ghost (.nilbox 0 2 true 5))
 (.f [5, 6, 7] [Ob.arr true 5 [], Ob.arr true 5 [], Ob.arr true 5 []] (AV.tup [SV.agg [AC.ref 0, AC.ref 1, AC.ref 2], lb false]))))) (.f [2, 3, 4] [Ob.arr true 5 (List.map syntaxC
 (s.items.getD 1 default).items), Ob.arr true 5 (List.map syntaxC (clauI s 0)), Ob.arr true 5 (List.map syntaxC (clauI s 1))] (AV.tup [SV.agg [AC.ref 0, AC.ref 1, AC.ref 2], lb
 true])))) (.t (.w (.ghost (.nilbox 0 0 true 5)) (.w (.ghost (.nilbox 0 1 true 5)) (.w (.ghost (.nilbox 0 2 true 5)) (.f [1, 2, 3] [Ob.arr true 5 [], Ob.arr true 5 [], Ob.arr true
 5 []] (AV.tup [SV.agg [AC.ref 0, AC.ref 1, AC.ref 2], lb false]))))) .q))))))))))))))))))))) (by
  dsimp only [teasy, P_c_iParse0, nthW, lc_iParse0La]
  have g1 := wY_eq s
  have g2 := @prsR_w s
  have e : (s.items.drop 2).take (s.items.length - 2) = s.items.drop 2 := List.take_of_length_le (by rw [List.length_drop]; omega)
  have e2 : ∀ j, j < s.items.length → wY (s.items.getD j default) ≤ wY s := fun j hj => by have := @sumBy_mem _ wY s.items _ (getD_mem' hj); omega
  have e3 := wY_eq (s.items.getD 1 default)
  have g3 : prsB0 L s = true → prsO0 L s = prsR s := fun h => if_pos h
  have g4 : prsB0 L s = false → prsO0 L s = ⟨[], [], []⟩ := fun h => by unfold prsO0; rw [h]; rfl
  have g5 : prsB0 L s = (decide (s.kind = 0) && decide (2 ≤ (s.items.length : Int)) && decide (frm L (s.items.getD 0 default) = 10) && decide ((s.items.getD 1 default).kind = 0) && (s.items.drop 2).all clauP && isRul (prsR s)) := rfl
  have g6 : prsR s = ⟨(s.items.getD 1 default).items, clauI s 0, clauI s 1⟩ := rfl
  have g7 : clauT s 0 0 = [] ∧ clauT s 1 0 = [] := ⟨rfl, rfl⟩
  with_reducible repeat' (first | apply And.intro | exact zR | (intro; skip) | apply c_iForm | apply c_iCopyYs | apply c_iCopyY | apply c_iIsRules)
  all_goals (try simp only [std, inj] at *)
  all_goals with_reducible repeat' apply And.intro
  all_goals (try (first | with_reducible apply c_iForm | with_reducible apply c_iCopyYs | with_reducible apply c_iCopyY | with_reducible apply c_iIsRules | (simp only [← List.map_append]; first | with_reducible apply c_iForm | with_reducible apply c_iCopyYs | with_reducible apply c_iCopyY | with_reducible apply c_iIsRules)))
  all_goals (try (first | exact z | grind [snocI, snocS, rowSnoc])))
abbrev P_c_sParse0 (L : List Binding) (s : Syntax) : Ct := ⟨43, [], [ll (L.map bindingC), syntaxA s], rulesO (prsO0 L s), .tup [rulesR (prsO0 L s) 0, lb (prsB0 L s)]⟩
def lc_sParse0Lb (L : List Binding) (s : Syntax) : Lp Nat := .mk 101 0 (fun x => [(4, SV.one (AC.ptr 0 0)), (6, SV.one (AC.ptr 1 0)), (59, ll (List.take ((List.map syntaxC
 s.items).length - 2) (List.drop 2 (List.map syntaxC s.items)))), (60, li (↑(List.take ((List.map syntaxC s.items).length - 2) (List.drop 2 (List.map syntaxC s.items))).length :
 Int)), (61, hs x 0)]) (fun x => [Ob.box [AC.val (Cell.lit (Value.slice none 0 0)), AC.val (Cell.lit (Value.slice none 0 0)), AC.val (Cell.lit (Value.slice none 0 0))], Ob.box
 [AC.ref 2, AC.ref 3, AC.ref 4], Ob.arr true 5 (List.map syntaxC (s.items.getD 1 default).items), ho x 1, ho x 2]) (fun k => [.s (li (↑k : Int)), .o (Ob.arr true 5 (List.map
 syntaxC (clauT s 0 k))), .o (Ob.arr true 5 (List.map syntaxC (clauT s 1 k)))]) (fun k => k ≤ (List.drop 2 s.items).length ∧ 2 ≤ s.items.length ∧ s.items.length ≤ 1048576 ∧
 (List.take k (List.drop 2 s.items)).all clauP = true) (fun k => (List.drop 2 s.items).length - k) [.mk ((List.drop 2 s.items).all clauP = true) (.exit 2) (fun x => [(4, SV.one
 (AC.ptr 0 0)), (6, SV.one (AC.ptr 1 0))]) (fun x => [Ob.box [AC.val (Cell.lit (Value.slice none 0 0)), AC.val (Cell.lit (Value.slice none 0 0)), AC.val (Cell.lit (Value.slice none
 0 0))], Ob.box [AC.ref 2, AC.ref 3, AC.ref 4], Ob.arr true 5 (List.map syntaxC (s.items.getD 1 default).items), ho x 0, ho x 1]) [.o (Ob.arr true 5 (List.map syntaxC (clauI s
 0))), .o (Ob.arr true 5 (List.map syntaxC (clauI s 1)))], .mk ((List.drop 2 s.items).all clauP = false) .ret (fun x => [(4, SV.one (AC.ptr 0 0)), (5, hs x 1)]) (fun x => [ho x 0])
 [.o (Ob.box [AC.val (Cell.lit (Value.slice none 0 0)), AC.val (Cell.lit (Value.slice none 0 0)), AC.val (Cell.lit (Value.slice none 0 0))]), .s (lb false)]]
def lc_sParse0La (L : List Binding) (s : Syntax) : Lp Nat := .mk 101 0 (fun x => [(3, SV.one (AC.ptr 0 0)), (4, SV.one (AC.ptr 1 0)), (6, SV.one (AC.ptr 2 0)), (43, ll (List.map
 syntaxC (s.items.getD 1 default).items)), (44, li (↑(List.map syntaxC (s.items.getD 1 default).items).length : Int)), (45, hs x 0)]) (fun x => [Ob.box (vals (syntaxF s)), Ob.box
 [AC.val (Cell.lit (Value.slice none 0 0)), AC.val (Cell.lit (Value.slice none 0 0)), AC.val (Cell.lit (Value.slice none 0 0))], Ob.box [AC.ref 3, AC.val (Cell.lit (Value.slice
 none 0 0)), AC.val (Cell.lit (Value.slice none 0 0))], ho x 1]) (fun k => [.s (li (↑k : Int)), .o (Ob.arr true 5 (List.map syntaxC (List.take k (s.items.getD 1 default).items)))])
 (fun k => k ≤ (s.items.getD 1 default).items.length ∧ (s.items.getD 1 default).items.length ≤ 9223372036854775807) (fun k => (s.items.getD 1 default).items.length - k) [.mk True
 (.exit 0) (fun x => [(3, SV.one (AC.ptr 0 0)), (4, SV.one (AC.ptr 1 0)), (6, SV.one (AC.ptr 2 0))]) (fun x => [Ob.box (vals (syntaxF s)), Ob.box [AC.val (Cell.lit (Value.slice
 none 0 0)), AC.val (Cell.lit (Value.slice none 0 0)), AC.val (Cell.lit (Value.slice none 0 0))], Ob.box [AC.ref 3, AC.val (Cell.lit (Value.slice none 0 0)), AC.val (Cell.lit
 (Value.slice none 0 0))], ho x 0]) [.o (Ob.arr true 5 (List.map syntaxC (s.items.getD 1 default).items))]]
theorem Sc_sParse0Lb (L : List Binding) (s : Syntax) (h : L.length ≤ 1048577 ∧ sumBy wB L ≤ 1048577 ∧ wY s ≤ 1048576) : Lp.Sem Tryz.prog (loopAt Tryz.f43 1) (lc_sParse0Lb L s) :=
 lpOK (fun k => .i ((↑k : Int) < (↑(List.take ((List.map syntaxC s.items).length - 2) (List.drop 2 (List.map syntaxC s.items))).length : Int)) (.x (↑k : Int) (List.take ((List.map
 syntaxC s.items).length - 2) (List.drop 2 (List.map syntaxC s.items))) (syntaxF ((List.take ((List.map syntaxC s.items).length - 2) (List.drop 2 s.items)).getD k default)) (.i
 (((List.take ((List.map syntaxC s.items).length - 2) (List.drop 2 s.items)).getD k default).kind ≠ 0) (.y true (.o 1 [0] [.o (Ob.box [AC.val (Cell.lit (Value.slice none 0 0)),
 AC.val (Cell.lit (Value.slice none 0 0)), AC.val (Cell.lit (Value.slice none 0 0))]), .s (lb false)])) (.z syntaxC ((List.take ((List.map syntaxC s.items).length - 2) (List.drop 2
 s.items)).getD k default).items (.i ((↑(List.map syntaxC ((List.take ((List.map syntaxC s.items).length - 2) (List.drop 2 s.items)).getD k default).items).length : Int) ≠ 2) (.o 1
 [0] [.o (Ob.box [AC.val (Cell.lit (Value.slice none 0 0)), AC.val (Cell.lit (Value.slice none 0 0)), AC.val (Cell.lit (Value.slice none 0 0))]), .s (lb false)]) (.w (.draw [(7,
 [6, 7]), (8, [3, 14]), (10, [1])]) (.w (.cells (syntaxF (((List.take ((List.map syntaxC s.items).length - 2) (List.drop 2 s.items)).getD k default).items.getD 0 default))) (.p ((0
 : Int) ≤ 0 ∧ (List.map syntaxC ((List.take ((List.map syntaxC s.items).length - 2) (List.drop 2 s.items)).getD k default).items)[0]? = some (syntaxF (((List.take ((List.map
 syntaxC s.items).length - 2) (List.drop 2 s.items)).getD k default).items.getD 0 default))) (.d [.rd] (P_c_sCopyY (((List.take ((List.map syntaxC s.items).length - 2) (List.drop 2
 s.items)).getD k default).items.getD 0 default)) (.p (((List.map syntaxC (clauT s 0 k)).length + 1) * 80 ≤ 140737488355328) (.w (.draw [(7, [16, 17]), (8, [4, 24]), (10, [1])])
 (.w (.cells (syntaxF (((List.take ((List.map syntaxC s.items).length - 2) (List.drop 2 s.items)).getD k default).items.getD 1 default))) (.p ((0 : Int) ≤ 1 ∧ (List.map syntaxC
 ((List.take ((List.map syntaxC s.items).length - 2) (List.drop 2 s.items)).getD k default).items)[1]? = some (syntaxF (((List.take ((List.map syntaxC s.items).length - 2)
 (List.drop 2 s.items)).getD k default).items.getD 1 default))) (.d [.rd] (P_c_sCopyY (((List.take ((List.map syntaxC s.items).length - 2) (List.drop 2 s.items)).getD k
 default).items.getD 1 default)) (.p (((List.map syntaxC (clauT s 1 k)).length + 1) * 80 ≤ 140737488355328) (.r ((↑k : Int) + 1) (.g [0, 1, 2, 15, 25] (k + 1) [.s (li ((↑k : Int) +
 1)), .o (Ob.arr true 5 (List.map syntaxC (clauT s 0 k) ++ [syntaxF (((List.take ((List.map syntaxC s.items).length - 2) (List.drop 2 s.items)).getD k default).items.getD 0
 default)])), .o (Ob.arr true 5 (List.map syntaxC (clauT s 1 k) ++ [syntaxF (((List.take ((List.map syntaxC s.items).length - 2) (List.drop 2 s.items)).getD k default).items.getD 1
 default)]))])))))))))))))))) (.o 0 [0, 1, 2, 3, 4] [.o (Ob.arr true 5 (List.map syntaxC (clauT s 0 k))), .o (Ob.arr true 5 (List.map syntaxC (clauT s 1 k)))])) (by
  intro k h; try dsimp only [teasy, nthW, lc_sParse0Lb] at h ⊢
  have g1 := @clauT_step s 0 k
  have g2 := @clauT_step s 1 k
  have g3 := @clauT_end s 0 k
  have g4 := @clauT_end s 1 k
  have g5 := clauT_len s 0 k
  have g6 := clauT_len s 1 k
  have g7 := @all_stopY (s.items.drop 2) clauP k
  have g8 := @take_get _ _ (s.items.drop 2) k
  have e : (s.items.drop 2).take (s.items.length - 2) = s.items.drop 2 := List.take_of_length_le (by rw [List.length_drop]; omega)
  have e2 : (s.items.drop 2).length = s.items.length - 2 := List.length_drop
  have e3 : k < (s.items.drop 2).length → wY ((s.items.drop 2).getD k default) ≤ wY s := fun h => by have := @sumBy_mem _ wY s.items _ (List.mem_of_mem_drop (getD_mem' h)); have := wY_eq s; omega
  have e4 := wY_eq ((s.items.drop 2).getD k default)
  have e5 : ∀ j, j < ((s.items.drop 2).getD k default).items.length → wY (((s.items.drop 2).getD k default).items.getD j default) ≤ wY ((s.items.drop 2).getD k default) := fun j h => by have := @sumBy_mem _ wY _ _ (getD_mem' h); omega
  have e6 : clauP ((s.items.drop 2).getD k default) = (decide (((s.items.drop 2).getD k default).kind = 0) && decide ((((s.items.drop 2).getD k default).items.length : Int) = 2)) := rfl
  have e7 : (s.items.drop 2).length ≤ k → (s.items.drop 2).take k = s.items.drop 2 := fun h => List.take_of_length_le h
  with_reducible repeat' (first | apply And.intro | exact zR | (intro; skip) | apply c_sHead | apply c_sCopyY | apply c_sIsRules)
  all_goals (try simp only [std, inj] at *)
  all_goals with_reducible repeat' apply And.intro
  all_goals (try (first | with_reducible apply c_sHead | with_reducible apply c_sCopyY | with_reducible apply c_sIsRules | (simp only [← List.map_append]; first | with_reducible apply c_sHead | with_reducible apply c_sCopyY | with_reducible apply c_sIsRules)))
  all_goals (try (first | exact z | grind [snocI, snocS, rowSnoc])))
theorem Sc_sParse0La (L : List Binding) (s : Syntax) (h : L.length ≤ 1048577 ∧ sumBy wB L ≤ 1048577 ∧ wY s ≤ 1048576) : Lp.Sem Tryz.prog (loopAt Tryz.f43 0) (lc_sParse0La L s) :=
 lpOK (fun k => .i ((↑k : Int) < (↑(List.map syntaxC (s.items.getD 1 default).items).length : Int)) (.x (↑k : Int) (List.map syntaxC (s.items.getD 1 default).items) (syntaxF
 ((s.items.getD 1 default).items.getD k default)) (.w (.draw [(4, [5, 6]), (5, [3, 13]), (7, [2])]) (.d [.rd] (P_c_sCopyY ((s.items.getD 1 default).items.getD k default)) (.p
 (((List.map syntaxC (List.take k (s.items.getD 1 default).items)).length + 1) * 80 ≤ 140737488355328) (.r ((↑k : Int) + 1) (.g [0, 1, 2, 14] (k + 1) [.s (li ((↑k : Int) + 1)), .o
 (Ob.arr true 5 (List.map syntaxC (List.take k (s.items.getD 1 default).items) ++ [syntaxF ((s.items.getD 1 default).items.getD k default)]))])))))) (.o 0 [0, 1, 2, 3] [.o (Ob.arr
 true 5 (List.map syntaxC (List.take k (s.items.getD 1 default).items)))])) (by
  intro k h; try dsimp only [teasy, nthW, lc_sParse0La] at h ⊢
  have e1 := wY_eq (s.items.getD 1 default)
  have e2 := item_w s 1
  have g2 := @sumBy_mem _ wY (s.items.getD 1 default).items ((s.items.getD 1 default).items.getD k default)
  with_reducible repeat' (first | apply And.intro | exact zR | (intro; skip) | apply c_sHead | apply c_sCopyY | apply c_sIsRules)
  all_goals (try simp only [std, inj] at *)
  all_goals with_reducible repeat' apply And.intro
  all_goals (try (first | with_reducible apply c_sHead | with_reducible apply c_sCopyY | with_reducible apply c_sIsRules | (simp only [← List.map_append]; first | with_reducible apply c_sHead | with_reducible apply c_sCopyY | with_reducible apply c_sIsRules)))
  all_goals (try (first | exact z | grind [take_get, snocI, snocS, rowSnoc, getD_mem'])))
theorem c_sParse0 (L : List Binding) (s : Syntax) (h : L.length ≤ 1048577 ∧ sumBy wB L ≤ 1048577 ∧ wY s ≤ 1048576)  : P_c_sParse0 L s := fnOK Tryz.call43 Tryz.func43 (.i (s.kind ≠ 0)
 (.y true (.y true (.y true (.w (.ghost (.nilbox 1 0 true 5)) (.w (.ghost (.nilbox 1 1 true 5)) (.w (.ghost (.nilbox 1 2 true 5)) (.f [2, 3, 4] [Ob.arr true 5 [], Ob.arr true 5 [],
 Ob.arr true 5 []] (AV.tup [SV.agg [AC.ref 0, AC.ref 1, AC.ref 2], lb false])))))))) (.z syntaxC s.items (.i ((↑(List.map syntaxC s.items).length : Int) < 3) (.y true (.y true (.w
 (.ghost (.nilbox 1 0 true 5)) (.w (.ghost (.nilbox 1 1 true 5)) (.w (.ghost (.nilbox 1 2 true 5)) (.f [2, 3, 4] [Ob.arr true 5 [], Ob.arr true 5 [], Ob.arr true 5 []] (AV.tup
 [SV.agg [AC.ref 0, AC.ref 1, AC.ref 2], lb false]))))))) (.w (.cells (syntaxF (s.items.getD 0 default))) (.p ((0 : Int) ≤ 0 ∧ (List.map syntaxC s.items)[0]? = some (syntaxF
 (s.items.getD 0 default))) (.d [.rd, .rd, .rd] (P_c_sHead L (s.items.getD 0 default) 10) (.b (!decide (frm L (s.items.getD 0 default) = 10)) (.y true (.w (.ghost (.nilbox 1 0 true
 5)) (.w (.ghost (.nilbox 1 1 true 5)) (.w (.ghost (.nilbox 1 2 true 5)) (.f [2, 3, 4] [Ob.arr true 5 [], Ob.arr true 5 [], Ob.arr true 5 []] (AV.tup [SV.agg [AC.ref 0, AC.ref 1,
 AC.ref 2], lb false])))))) (.w (.cells (syntaxF (s.items.getD 1 default))) (.p ((0 : Int) ≤ 1 ∧ (List.map syntaxC s.items)[1]? = some (syntaxF (s.items.getD 1 default))) (.i
 ((s.items.getD 1 default).kind ≠ 0) (.w (.ghost (.nilbox 1 0 true 5)) (.w (.ghost (.nilbox 1 1 true 5)) (.w (.ghost (.nilbox 1 2 true 5)) (.f [2, 3, 4] [Ob.arr true 5 [], Ob.arr
 true 5 [], Ob.arr true 5 []] (AV.tup [SV.agg [AC.ref 0, AC.ref 1, AC.ref 2], lb false]))))) (.w (.cells (syntaxF (s.items.getD 1 default))) (.p ((0 : Int) ≤ 1 ∧ (List.map syntaxC
 s.items)[1]? = some (syntaxF (s.items.getD 1 default))) (.z syntaxC (s.items.getD 1 default).items (.w (.ghost (.nilbox 2 0 true 5)) (.l (lc_sParse0La L s) (Sc_sParse0La L s h)
 [0, 1, 2, 3] [.s (li 0), .o (Ob.arr true 5 [])] 0 (.t (.p ((0 : Int) ≤ 2) (.p (2 ≤ (List.map syntaxC s.items).length ∧ (List.map syntaxC s.items).length ≤ (List.map syntaxC
 s.items).length ∧ ∀ (e : List Cell), e ∈ List.map syntaxC s.items → e.length = 5) (.h ((List.take ((List.map syntaxC s.items).length - 2) (List.drop 2 (List.map syntaxC
 s.items))).length ≤ 9223372036854775807) (.w (.ghost (.nilbox 2 1 true 5)) (.w (.ghost (.nilbox 2 2 true 5)) (.l (lc_sParse0Lb L s) (Sc_sParse0Lb L s h) [1, 2, 3, 4, 5] [.s (li
 0), .o (Ob.arr true 5 []), .o (Ob.arr true 5 [])] 0 (.t (.d [.rd] (P_c_sIsRules (Rules.mk (s.items.getD 1 default).items (clauI s 0) (clauI s 1))) (.b (!isRul (Rules.mk
 (s.items.getD 1 default).items (clauI s 0) (clauI s 1))) (.w (.ghost (.nilbox 0 0 true 5)) (.w (.ghost (.nilbox 0 1 true 5)) (.w (.ghost (.nilbox 0 2 true 5)) (.f [5, 6, 7]
 [Ob.arr true 5 [], Ob.arr true 5 [], Ob.arr true 5 []] (AV.tup [SV.agg [AC.ref 0, AC.ref 1, AC.ref 2], lb false]))))) (.f [2, 3, 4] [Ob.arr true 5 (List.map syntaxC (s.items.getD
 1 default).items), Ob.arr true 5 (List.map syntaxC (clauI s 0)), Ob.arr true 5 (List.map syntaxC (clauI s 1))] (AV.tup [SV.agg [AC.ref 0, AC.ref 1, AC.ref 2], lb true])))) (.t (.w
 (.ghost (.nilbox 0 0 true 5)) (.w (.ghost (.nilbox 0 1 true 5)) (.w (.ghost (.nilbox 0 2 true 5)) (.f [1, 2, 3] [Ob.arr true 5 [], Ob.arr true 5 [], Ob.arr true 5 []] (AV.tup
 [SV.agg [AC.ref 0, AC.ref 1, AC.ref 2], lb false]))))) .q)))))))) .q)))))))))))))))) (by
  dsimp only [teasy, P_c_sParse0, nthW, lc_sParse0La, lc_sParse0Lb]
  have g1 := wY_eq s
  have g2 := @prsR_w s
  have e : (s.items.drop 2).take (s.items.length - 2) = s.items.drop 2 := List.take_of_length_le (by rw [List.length_drop]; omega)
  have e2 : ∀ j, j < s.items.length → wY (s.items.getD j default) ≤ wY s := fun j hj => by have := @sumBy_mem _ wY s.items _ (getD_mem' hj); omega
  have e3 := wY_eq (s.items.getD 1 default)
  have g3 : prsB0 L s = true → prsO0 L s = prsR s := fun h => if_pos h
  have g4 : prsB0 L s = false → prsO0 L s = ⟨[], [], []⟩ := fun h => by unfold prsO0; rw [h]; rfl
  have g5 : prsB0 L s = (decide (s.kind = 0) && decide (2 ≤ (s.items.length : Int)) && decide (frm L (s.items.getD 0 default) = 10) && decide ((s.items.getD 1 default).kind = 0) && (s.items.drop 2).all clauP && isRul (prsR s)) := rfl
  have g6 : prsR s = ⟨(s.items.getD 1 default).items, clauI s 0, clauI s 1⟩ := rfl
  have g7 : clauT s 0 0 = [] ∧ clauT s 1 0 = [] := ⟨rfl, rfl⟩
  have g8 : s.items.length = 2 → isRul (prsR s) = false := fun h => by
    have e : s.items.drop 2 = [] := List.drop_eq_nil_of_le (by omega)
    simp [isRul, prsR, clauI, e]
  with_reducible repeat' (first | apply And.intro | exact zR | (intro; skip) | apply c_sHead | apply c_sCopyY | apply c_sIsRules)
  all_goals (try simp only [std, inj] at *)
  all_goals with_reducible repeat' apply And.intro
  all_goals (try (first | with_reducible apply c_sHead | with_reducible apply c_sCopyY | with_reducible apply c_sIsRules | (simp only [← List.map_append]; first | with_reducible apply c_sHead | with_reducible apply c_sCopyY | with_reducible apply c_sIsRules)))
  all_goals (try (first | exact z | grind [snocI, snocS, rowSnoc])))
end Go.Proofs.YtjgbkigdnjalkaaGreatDoor
end
section
namespace Go.Proofs.YtjgbkigdnjalkaaGreatDoor
open Go Go.Proofs.YtjgbkigdnjalkaaGreatDoor.Ab
set_option linter.unusedVariables false
set_option linter.unusedSimpArgs false
set_option maxHeartbeats 4000000
mutual
def synD : Datum → Syntax
  | ⟨k, n, t, l⟩ => ⟨k, n, t, [], synDs l⟩
def synDs : List Datum → List Syntax
  | [] => []
  | x :: r => synD x :: synDs r
end
theorem synDs_eq : ∀ l, synDs l = l.map synD
  | [] => by simp [synDs]
  | x :: r => by rw [synDs, synDs_eq r]; rfl
theorem synD_eq (d : Datum) : synD d = ⟨d.kind, d.number, d.text, [], d.items.map synD⟩ := by cases d; simp only [synD, synDs_eq]
abbrev P_c_sOf (d : Datum) : Ct := ⟨19, [], [datumA d], syntaxO (synD d), .sv (syntaxR (synD d) 0)⟩
def lc_sOf_sLa (d : Datum) : Lp Nat := .mk 29 0 (fun x => [(2, SV.one (AC.ptr 0 0)), (3, SV.one (AC.ptr 1 0)), (14, ll (List.map datumC d.items)), (15, li (↑(List.map datumC
 d.items).length : Int)), (16, hs x 0)]) (fun x => [Ob.box [vI 0, vI 0, vS (ByteArray.mk #[]), AC.val (Cell.lit (Value.slice none 0 0)), AC.val (Cell.lit (Value.slice none 0 0))],
 Ob.box [vI d.kind, vI d.number, vS d.text, AC.val (Cell.lit (Value.slice none 0 0)), AC.ref 2], ho x 1]) (fun k => [.s (li (↑k : Int)), .o (Ob.arr true 5 (List.map syntaxC
 (List.map synD (List.take k d.items))))]) (fun k => k ≤ d.items.length ∧ d.items.length ≤ 9223372036854775807) (fun k => d.items.length - k) [.mk True (.exit 0) (fun x => [(2,
 SV.one (AC.ptr 0 0)), (3, SV.one (AC.ptr 1 0))]) (fun x => [Ob.box [vI 0, vI 0, vS (ByteArray.mk #[]), AC.val (Cell.lit (Value.slice none 0 0)), AC.val (Cell.lit (Value.slice none
 0 0))], Ob.box [vI d.kind, vI d.number, vS d.text, AC.val (Cell.lit (Value.slice none 0 0)), AC.ref 2], ho x 0]) [.o (Ob.arr true 5 (List.map syntaxC (List.map synD d.items)))]]
theorem Sc_sOf_sLa (d : Datum) (h : wD d ≤ 1048576) (ih : ∀ (z : Datum), z ∈ d.items → wD z ≤ 1048576 → OK (P_c_sOf z)) : Lp.Sem Tryz.prog (loopAt Tryz.f19 0) (lc_sOf_sLa d) :=
 lpOK (fun k => .i ((↑k : Int) < (↑(List.map datumC d.items).length : Int)) (.x (↑k : Int) (List.map datumC d.items) (datumF (d.items.getD k default)) (.w (.draw [(4, [4, 5]), (5,
 [2, 12]), (7, [1])]) (.d [.rd] (P_c_sOf (d.items.getD k default)) (.p (((List.map syntaxC (List.map synD (List.take k d.items))).length + 1) * 80 ≤ 140737488355328) (.r ((↑k :
 Int) + 1) (.g [0, 1, 13] (k + 1) [.s (li ((↑k : Int) + 1)), .o (Ob.arr true 5 (List.map syntaxC (List.map synD (List.take k d.items)) ++ [syntaxF (synD (d.items.getD k
 default))]))])))))) (.o 0 [0, 1, 2] [.o (Ob.arr true 5 (List.map syntaxC (List.map synD (List.take k d.items))))])) (by
  intro k h; try dsimp only [teasy, nthW, lc_sOf_sLa] at h ⊢
  have g1 := wD_eq d
  have g2 := @sumBy_mem _ wD d.items (d.items.getD k default)
  with_reducible repeat' (first | apply And.intro | exact zR | exact ih | (intro; skip) | apply ih)
  all_goals (try simp only [std, inj] at *)
  all_goals with_reducible repeat' apply And.intro
  all_goals (try (first | with_reducible apply ih | (simp only [← List.map_append]; first | with_reducible apply ih)))
  all_goals (try (first | exact z | grind [take_get, getD_mem', snocI, snocS, rowSnoc, getD_mem'])))
theorem c_sOf_s (d : Datum) (h : wD d ≤ 1048576) (ih : ∀ z ∈ d.items, ∀ (h : wD z ≤ 1048576), P_c_sOf z)  : P_c_sOf d := fnOK Tryz.call19 Tryz.func19 (.z datumC d.items (.w (.ghost
 (.nilbox 2 4 true 5)) (.l (lc_sOf_sLa d) (Sc_sOf_sLa d h ih) [1, 2, 3] [.s (li 0), .o (Ob.arr true 5 [])] 0 (.t (.w (.ghost (.nilbox 0 3 true 1)) (.f [3, 2] [Ob.arr true 1 [],
 Ob.arr true 5 (List.map syntaxC (List.map synD d.items))] (AV.sv (SV.agg [vI d.kind, vI d.number, vS d.text, AC.ref 0, AC.ref 1])))) .q)))) (by
  dsimp only [teasy, P_c_sOf, nthW, lc_sOf_sLa]
  have g1 := wD_eq d
  have g2 := synD_eq d
  with_reducible repeat' (first | apply And.intro | exact zR | exact ih | (intro; skip))
  all_goals (try simp only [std, inj] at *)
  all_goals with_reducible repeat' apply And.intro
  all_goals (try (first | with_reducible apply ih | (simp only [← List.map_append]; first | with_reducible apply ih)))
  all_goals (try (first | exact z | grind [snocI, snocS, rowSnoc])))
theorem c_sOf (d : Datum) : ∀ (h : wD d ≤ 1048576), P_c_sOf d := Datum.ind (P := fun d => ∀ (h : wD d ≤ 1048576), P_c_sOf d) (fun d ih h => c_sOf_s d h ih) d
abbrev P_c_iOf (d : Datum) : Ct := ⟨24, [], [datumA d], syntaxO (synD d), .sv (syntaxR (synD d) 0)⟩
def lc_iOf_sLa (d : Datum) : Lp Nat := .mk 29 0 (fun x => [(2, SV.one (AC.ptr 0 0)), (3, SV.one (AC.ptr 1 0)), (14, ll (List.map datumC d.items)), (15, li (↑(List.map datumC
 d.items).length : Int)), (16, hs x 0)]) (fun x => [Ob.box [vI 0, vI 0, vS (ByteArray.mk #[]), AC.val (Cell.lit (Value.slice none 0 0)), AC.val (Cell.lit (Value.slice none 0 0))],
 Ob.box [vI d.kind, vI d.number, vS d.text, AC.val (Cell.lit (Value.slice none 0 0)), AC.ref 2], ho x 1]) (fun k => [.s (li (↑k : Int)), .o (Ob.arr true 5 (List.map syntaxC
 (List.map synD (List.take k d.items))))]) (fun k => k ≤ d.items.length ∧ d.items.length ≤ 9223372036854775807) (fun k => d.items.length - k) [.mk True (.exit 0) (fun x => [(2,
 SV.one (AC.ptr 0 0)), (3, SV.one (AC.ptr 1 0))]) (fun x => [Ob.box [vI 0, vI 0, vS (ByteArray.mk #[]), AC.val (Cell.lit (Value.slice none 0 0)), AC.val (Cell.lit (Value.slice none
 0 0))], Ob.box [vI d.kind, vI d.number, vS d.text, AC.val (Cell.lit (Value.slice none 0 0)), AC.ref 2], ho x 0]) [.o (Ob.arr true 5 (List.map syntaxC (List.map synD d.items)))]]
theorem Sc_iOf_sLa (d : Datum) (h : wD d ≤ 1048576) (ih : ∀ (z : Datum), z ∈ d.items → wD z ≤ 1048576 → OK (P_c_iOf z)) : Lp.Sem Tryz.prog (loopAt Tryz.f24 0) (lc_iOf_sLa d) :=
 lpOK (fun k => .i ((↑k : Int) < (↑(List.map datumC d.items).length : Int)) (.x (↑k : Int) (List.map datumC d.items) (datumF (d.items.getD k default)) (.w (.draw [(4, [4, 5]), (5,
 [2, 12]), (7, [1])]) (.d [.rd] (P_c_iOf (d.items.getD k default)) (.p (((List.map syntaxC (List.map synD (List.take k d.items))).length + 1) * 80 ≤ 140737488355328) (.r ((↑k :
 Int) + 1) (.g [0, 1, 13] (k + 1) [.s (li ((↑k : Int) + 1)), .o (Ob.arr true 5 (List.map syntaxC (List.map synD (List.take k d.items)) ++ [syntaxF (synD (d.items.getD k
 default))]))])))))) (.o 0 [0, 1, 2] [.o (Ob.arr true 5 (List.map syntaxC (List.map synD (List.take k d.items))))])) (by
  intro k h; try dsimp only [teasy, nthW, lc_iOf_sLa] at h ⊢
  have g1 := wD_eq d
  have g2 := @sumBy_mem _ wD d.items (d.items.getD k default)
  with_reducible repeat' (first | apply And.intro | exact zR | exact ih | (intro; skip) | apply ih)
  all_goals (try simp only [std, inj] at *)
  all_goals with_reducible repeat' apply And.intro
  all_goals (try (first | with_reducible apply ih | (simp only [← List.map_append]; first | with_reducible apply ih)))
  all_goals (try (first | exact z | grind [take_get, getD_mem', snocI, snocS, rowSnoc, getD_mem'])))
theorem c_iOf_s (d : Datum) (h : wD d ≤ 1048576) (ih : ∀ z ∈ d.items, ∀ (h : wD z ≤ 1048576), P_c_iOf z)  : P_c_iOf d := fnOK Tryz.call24 Tryz.func24 (.z datumC d.items (.w (.ghost
 (.nilbox 2 4 true 5)) (.l (lc_iOf_sLa d) (Sc_iOf_sLa d h ih) [1, 2, 3] [.s (li 0), .o (Ob.arr true 5 [])] 0 (.t (.w (.ghost (.nilbox 0 3 true 1)) (.f [3, 2] [Ob.arr true 1 [],
 Ob.arr true 5 (List.map syntaxC (List.map synD d.items))] (AV.sv (SV.agg [vI d.kind, vI d.number, vS d.text, AC.ref 0, AC.ref 1])))) .q)))) (by
  dsimp only [teasy, P_c_iOf, nthW, lc_iOf_sLa]
  have g1 := wD_eq d
  have g2 := synD_eq d
  with_reducible repeat' (first | apply And.intro | exact zR | exact ih | (intro; skip))
  all_goals (try simp only [std, inj] at *)
  all_goals with_reducible repeat' apply And.intro
  all_goals (try (first | with_reducible apply ih | (simp only [← List.map_append]; first | with_reducible apply ih)))
  all_goals (try (first | exact z | grind [snocI, snocS, rowSnoc])))
theorem c_iOf (d : Datum) : ∀ (h : wD d ≤ 1048576), P_c_iOf d := Datum.ind (P := fun d => ∀ (h : wD d ≤ 1048576), P_c_iOf d) (fun d ih h => c_iOf_s d h ih) d
abbrev P_c_sNoU (L : List Int) : Ct := ⟨87, [], [ll (L.map intC)], [.arr true 1 []], .sv (.one (.ref 0))⟩
def lc_sNoULa (L : List Int) : Lp Nat := .mk 22 0 (fun x => [(3, SV.one (AC.ref 0)), (7, ll (List.map intC L)), (8, li (↑(List.map intC L).length : Int)), (9, hs x 0)]) (fun x =>
 [ho x 1]) (fun k => [.s (li (↑k : Int)), .o (Ob.arr true 1 [])]) (fun k => k ≤ L.length ∧ L.length ≤ 9223372036854775807 ∧ L.length = 0) (fun k => L.length - k) [.mk True (.exit
 0) (fun x => [(3, SV.one (AC.ref 0))]) (fun x => [ho x 0]) [.o (Ob.arr true 1 [])]]
theorem Sc_sNoULa (L : List Int) (h : L.length = 0) : Lp.Sem Tryz.prog (loopAt Tryz.f87 0) (lc_sNoULa L) := lpOK (fun k => .i ((↑k : Int) < (↑(List.map intC L).length : Int)) (.x
 (↑k : Int) (List.map intC L) [cI (L.getD k 0)] (.c [.rd] (c_sKind (L.getD k 0)) (.i (kindS (L.getD k 0) ≠ 3) (.p (8 ≤ 140737488355328) (.r ((↑k : Int) + 1) (.g [2] (k + 1) [.s (li
 ((↑k : Int) + 1)), .o (Ob.arr true 1 [[cI (L.getD k 0)]])]))) (.r ((↑k : Int) + 1) (.g [0] (k + 1) [.s (li ((↑k : Int) + 1)), .o (Ob.arr true 1 [])]))))) (.o 0 [0] [.o (Ob.arr
 true 1 [])])) (by
  intro k h; try dsimp only [teasy, nthW, lc_sNoULa] at h ⊢
  with_reducible repeat' (first | apply And.intro | exact zR | (intro; skip))
  all_goals (try simp only [std, inj] at *)
  all_goals with_reducible repeat' apply And.intro
  all_goals (try (first | exact z | grind [snocI, snocS, rowSnoc])))
theorem c_sNoU (L : List Int) (h : L.length = 0)  : P_c_sNoU L := fnOK Tryz.call87 Tryz.func87 (.w (.bool false) (.z intC L (.l (lc_sNoULa L) (Sc_sNoULa L h) [0] [.s (li 0), .o
 (Ob.arr true 1 [])] 0 (.t (.f [0] [Ob.arr true 1 []] (AV.sv (SV.one (AC.ref 0)))) .q)))) (by
  dsimp only [teasy, P_c_sNoU, nthW, lc_sNoULa]
  with_reducible repeat' (first | apply And.intro | exact zR | (intro; skip))
  all_goals (try simp only [std, inj] at *)
  all_goals with_reducible repeat' apply And.intro
  all_goals (try (first | exact z | grind [snocI, snocS, rowSnoc])))
abbrev P_c_sMapX (s : Syntax) (m n : Int) : Ct := ⟨45, [], [syntaxA s, li m, li n], syntaxO s, .sv (syntaxR s 0)⟩
theorem c_sMapX (s : Syntax) (m n : Int) (h : n < n) : OK (P_c_sMapX s m n) := absurd h (Int.lt_irrefl n)
abbrev P_c_sStrI (s : Syntax) : Ct := ⟨45, [], [syntaxA s, li 3, li 0], syntaxO s, .sv (syntaxR s 0)⟩
def lc_sStrILa (s : Syntax) : Lp Nat := .mk 62 0 (fun x => [(1, li 3), (2, li 0), (6, SV.one (AC.ptr 0 0)), (7, SV.one (AC.ptr 1 0)), (45, ll (List.map syntaxC s.items)), (46, li
 (↑(List.map syntaxC s.items).length : Int)), (47, hs x 0)]) (fun x => [Ob.box [vI 0, vI 0, vS (ByteArray.mk #[]), AC.val (Cell.lit (Value.slice none 0 0)), AC.val (Cell.lit
 (Value.slice none 0 0))], Ob.box [vI s.kind, vI s.number, vS s.text, AC.ref 2, AC.ref 3], ho x 2, ho x 1]) (fun k => [.s (li (↑k : Int)), .o (Ob.arr true 5 (List.map syntaxC
 (List.take k s.items))), .o (Ob.arr true 1 (List.map intC s.scopes))]) (fun k => k ≤ s.items.length ∧ s.items.length ≤ 9223372036854775807 ∧ s.items.length = 0) (fun k =>
 s.items.length - k) [.mk True (.exit 1) (fun x => [(6, SV.one (AC.ptr 0 0)), (7, SV.one (AC.ptr 1 0))]) (fun x => [Ob.box [vI 0, vI 0, vS (ByteArray.mk #[]), AC.val (Cell.lit
 (Value.slice none 0 0)), AC.val (Cell.lit (Value.slice none 0 0))], Ob.box [vI s.kind, vI s.number, vS s.text, AC.ref 2, AC.ref 3], ho x 1, ho x 0]) [.o (Ob.arr true 5 (List.map
 syntaxC s.items)), .o (Ob.arr true 1 (List.map intC s.scopes))]]
theorem Sc_sStrILa (s : Syntax) (h : s.kind = 1 ∧ s.scopes.length = 0 ∧ s.items.length = 0) : Lp.Sem Tryz.prog (loopAt Tryz.f45 0) (lc_sStrILa s) := lpOK (fun k => .i ((↑k : Int) <
 (↑(List.map syntaxC s.items).length : Int)) (.x (↑k : Int) (List.map syntaxC s.items) (syntaxF (s.items.getD k default)) (.w (.draw [(6, [5, 6]), (7, [3, 13]), (9, [1])]) (.d
 [.rd, .rd, .rd] (P_c_sMapX (s.items.getD k default) 3 0) (.p (((List.map syntaxC (List.take k s.items)).length + 1) * 80 ≤ 140737488355328) (.r ((↑k : Int) + 1) (.g [0, 1, 2, 14]
 (k + 1) [.s (li ((↑k : Int) + 1)), .o (Ob.arr true 5 (List.map syntaxC (List.take k s.items) ++ [syntaxF (s.items.getD k default)])), .o (Ob.arr true 1 (List.map intC
 s.scopes))])))))) (.o 0 [0, 1, 2, 3] [.o (Ob.arr true 5 (List.map syntaxC (List.take k s.items))), .o (Ob.arr true 1 (List.map intC s.scopes))])) (by
  intro k h; try dsimp only [teasy, nthW, lc_sStrILa] at h ⊢
  with_reducible repeat' (first | apply And.intro | exact zR | (intro; skip) | apply c_yInts | apply c_sNoU | apply c_sMapX)
  all_goals (try simp only [std, inj] at *)
  all_goals with_reducible repeat' apply And.intro
  all_goals (try (first | with_reducible apply c_yInts | with_reducible apply c_sNoU | with_reducible apply c_sMapX | (simp only [← List.map_append]; first | with_reducible apply c_yInts | with_reducible apply c_sNoU | with_reducible apply c_sMapX)))
  all_goals (try (first | exact z | grind [take_get, snocI, snocS, rowSnoc, getD_mem'])))
theorem c_sStrI (s : Syntax) (h : s.kind = 1 ∧ s.scopes.length = 0 ∧ s.items.length = 0)  : P_c_sStrI s := fnOK Tryz.call45 Tryz.func45 (.w (.draw [(11, [10])]) (.d [.rd] (P_c_yInts
 s.scopes) (.i (s.kind = 1) (.y false (.y false (.y true (.d [.rd] (P_c_sNoU s.scopes) (.z syntaxC s.items (.w (.ghost (.nilbox 10 4 true 5)) (.l (lc_sStrILa s) (Sc_sStrILa s h)
 [1, 10, 11, 12] [.s (li 0), .o (Ob.arr true 5 []), .o (Ob.arr true 1 [])] 0 (.t (.f [2, 3] [Ob.arr true 1 (List.map intC s.scopes), Ob.arr true 5 (List.map syntaxC s.items)]
 (AV.sv (SV.agg [vI s.kind, vI s.number, vS s.text, AC.ref 0, AC.ref 1]))) .q)))))))) (.z syntaxC s.items (.w (.ghost (.nilbox 10 4 true 5)) (.l (lc_sStrILa s) (Sc_sStrILa s h) [1,
 10, 2, 11] [.s (li 0), .o (Ob.arr true 5 []), .o (Ob.arr true 1 (List.map intC s.scopes))] 0 (.t (.f [2, 3] [Ob.arr true 1 (List.map intC s.scopes), Ob.arr true 5 (List.map
 syntaxC s.items)] (AV.sv (SV.agg [vI s.kind, vI s.number, vS s.text, AC.ref 0, AC.ref 1]))) .q))))))) (by
  dsimp only [teasy, P_c_sStrI, nthW, lc_sStrILa]
  have g1 : s.scopes.length = 0 → s.scopes = [] := List.length_eq_zero_iff.1
  have g2 : s.items.length = 0 → s.items = [] := List.length_eq_zero_iff.1
  with_reducible repeat' (first | apply And.intro | exact zR | (intro; skip) | apply c_yInts | apply c_sNoU | apply c_sMapX)
  all_goals (try simp only [std, inj] at *)
  all_goals with_reducible repeat' apply And.intro
  all_goals (try (first | with_reducible apply c_yInts | with_reducible apply c_sNoU | with_reducible apply c_sMapX | (simp only [← List.map_append]; first | with_reducible apply c_yInts | with_reducible apply c_sNoU | with_reducible apply c_sMapX)))
  all_goals (try (first | exact z | grind [snocI, snocS, rowSnoc])))
theorem syn_item {d : Datum} {j : Nat} (h : j < d.items.length) : (synD d).items.getD j default = synD (d.items.getD j default) := by
  rw [synD_eq]; simp [List.getD_eq_getElem?_getD, h]
def idB (d : Datum) : Syntax := (synD d).items.getD 1 default
def ruB (d : Datum) : Syntax := (synD d).items.getD 2 default
def stpB (x : Expander) (d : Datum) : Expander := ⟨x.bindings ++ [⟨(idB d).text, (idB d).scopes, 4, (x.macros.length : Int)⟩], x.macros ++ [prsR (ruB d)], x.scope, x.vari, x.steps⟩
def baX : Nat → Expander
  | 0 => ⟨coreBindings, [], 0, 0, 200⟩
  | k + 1 => stpB (baX k) (basD.getD k default)
def baOK (x : Expander) (d : Datum) : Bool :=
  decide (wD d ≤ 1048576) && decide (wX x ≤ 1048576) && decide (wY (synD d) ≤ 1048576) && decide (d.items.length = 3) && decide ((idB d).kind = 1) && decide ((idB d).scopes.length = 0) && decide ((idB d).items.length = 0) && decide (wY (idB d) ≤ 1048576) && decide (wY (ruB d) ≤ 1048576) && decide (wR (prsR (ruB d)) ≤ 1048576) && prsB0 x.bindings (ruB d) && decide (bmE x (idB d) = 0)
theorem ba_all : ∀ k, k < 9 → baOK (baX k) (basD.getD k default) = true := by decide +kernel
def baQ (k : Nat) : Expander := if System.Platform.numBits = 64 then baX k else baX k
theorem baQ_eq : baQ = baX := by funext k; unfold baQ; split <;> rfl
theorem baQ_zero : baQ 0 = ⟨coreBindings, [], 0, 0, 200⟩ := by rw [baQ_eq]; rfl
theorem baQ_succ (k : Nat) : baQ (k + 1) = stpB (baQ k) (basD.getD k default) := by rw [baQ_eq]; rfl
theorem ba_facts {k : Nat} (h : k < 9) : wD (basD.getD k default) ≤ 1048576 ∧ wX (baQ k) ≤ 1048576 ∧ wY (synD (basD.getD k default)) ≤ 1048576 ∧ (basD.getD k default).items.length = 3 ∧ (idB (basD.getD k default)).kind = 1 ∧ (idB (basD.getD k default)).scopes.length = 0 ∧ (idB (basD.getD k default)).items.length = 0 ∧
    wY (idB (basD.getD k default)) ≤ 1048576 ∧ wY (ruB (basD.getD k default)) ≤ 1048576 ∧ wR (prsR (ruB (basD.getD k default))) ≤ 1048576 ∧ prsB0 (baQ k).bindings (ruB (basD.getD k default)) = true ∧ bmE (baQ k) (idB (basD.getD k default)) = 0 ∧
    (baQ k).bindings.length ≤ 1048577 ∧ sumBy wB (baQ k).bindings ≤ 1048577 ∧ synD ((basD.getD k default).items.getD 1 default) = idB (basD.getD k default) ∧ synD ((basD.getD k default).items.getD 2 default) = ruB (basD.getD k default) ∧ (synD (basD.getD k default)).items.length = 3 := by
  have h1 : baOK (baQ k) (basD.getD k default) = true := by rw [baQ_eq]; exact ba_all k h
  simp only [baOK, Bool.and_eq_true, decide_eq_true_eq] at h1
  obtain ⟨⟨⟨⟨⟨⟨⟨⟨⟨⟨⟨a, b⟩, c⟩, d⟩, e⟩, f⟩, g⟩, i⟩, j⟩, l⟩, m⟩, n⟩ := h1
  have hx := wX_eq (baQ k)
  refine ⟨a, b, c, d, e, f, g, i, j, l, m, n, by omega, by omega, (syn_item (by omega)).symm, (syn_item (by omega)).symm, ?_⟩
  rw [synD_eq]; simpa using d
theorem ba_len : basD.length = 9 := rfl
abbrev P_c_sPBas : Ct := ⟨16, [], [ls baseT], [.arr true 4 (basD.map datumC)], .tup [.one (.ref 0), lb true]⟩
theorem c_sPBas : OK P_c_sPBas := c_sPData basD baseT bas_rd
abbrev P_c_iPBas : Ct := ⟨21, [], [ls baseT], [.arr true 4 (basD.map datumC)], .tup [.one (.ref 0), lb true]⟩
theorem c_iPBas : OK P_c_iPBas := c_iPData basD baseT bas_rd
abbrev P_c_sSynX (x : Expander) (z : Int) (c : Int) (s : Syntax) : Ct := ⟨18, stO x z c, [.one (.ptr 0 0), syntaxA s], [.box [.ref 3, .ref 4, vI x.scope, vI x.vari, vI x.steps, vI z, vI c], .dead, .dead, .arr true 4 ((x.bindings ++ [(⟨(s.items.getD 1 default).text, (s.items.getD 1 default).scopes, 4, (x.macros.length : Int)⟩ : Binding)]).map bindingC), .arr true 3 ((x.macros ++ [prsR (s.items.getD 2 default)]).map rulesC)], .tup []⟩
theorem c_sSynX (x : Expander) (z c : Int) (s : Syntax) (h : wX x ≤ 1048576 ∧ wY s ≤ 1048576 ∧ s.items.length = 3 ∧ (s.items.getD 1 default).kind = 1 ∧ (s.items.getD 1
 default).scopes.length = 0 ∧ (s.items.getD 1 default).items.length = 0 ∧ prsB0 x.bindings (s.items.getD 2 default) = true ∧ bmE x (s.items.getD 1 default) = 0)  : P_c_sSynX x z c
 s := fnOK Tryz.call18 Tryz.func18 (.z syntaxC s.items (.i ((↑(List.map syntaxC s.items).length : Int) ≠ 3) (.y true (.c [.ptr, .rd] (c_sFail x z c 1) (.w (.ghost (.move 1)) (.w
 (.ghost (.move 2)) (.f [4, 5] [Ob.box [AC.ref 3, AC.ref 4, vI x.scope, vI x.vari, vI x.steps, vI z, vI (cdF c 1)], Ob.dead, Ob.dead, Ob.arr true 4 (List.map bindingC x.bindings),
 Ob.arr true 3 (List.map rulesC x.macros)] (AV.tup [])))))) (.w (.cells (syntaxF (s.items.getD 1 default))) (.p ((0 : Int) ≤ 1 ∧ (List.map syntaxC s.items)[1]? = some (syntaxF
 (s.items.getD 1 default))) (.i ((s.items.getD 1 default).kind ≠ 1) (.c [.ptr, .rd] (c_sFail x z c 1) (.w (.ghost (.move 1)) (.w (.ghost (.move 2)) (.f [4, 5] [Ob.box [AC.ref 3,
 AC.ref 4, vI x.scope, vI x.vari, vI x.steps, vI z, vI (cdF c 1)], Ob.dead, Ob.dead, Ob.arr true 4 (List.map bindingC x.bindings), Ob.arr true 3 (List.map rulesC x.macros)] (AV.tup
 []))))) (.w (.draw [(14, [12])]) (.w (.cells (syntaxF (s.items.getD 2 default))) (.p ((0 : Int) ≤ 2 ∧ (List.map syntaxC s.items)[2]? = some (syntaxF (s.items.getD 2 default))) (.d
 [.rd, .rd] (P_c_sParse0 x.bindings (s.items.getD 2 default)) (.b (!prsB0 x.bindings (s.items.getD 2 default)) (.c [.ptr, .rd] (c_sFail x z c 1) (.w (.ghost (.move 1)) (.w (.ghost
 (.move 2)) (.f [13, 14] [Ob.box [AC.ref 3, AC.ref 4, vI x.scope, vI x.vari, vI x.steps, vI z, vI (cdF c 1)], Ob.dead, Ob.dead, Ob.arr true 4 (List.map bindingC x.bindings), Ob.arr
 true 3 (List.map rulesC x.macros)] (AV.tup []))))) (.w (.draw [(7, [0, 1, 2, 4, 5, 6])]) (.w (.cells (syntaxF (s.items.getD 1 default))) (.p ((0 : Int) ≤ 1 ∧ (List.map syntaxC
 s.items)[1]? = some (syntaxF (s.items.getD 1 default))) (.d [.rd, .rd, .rd] (P_c_sStrI (s.items.getD 1 default)) (.d [.ptr, .rd, .agg [some (true, 5), some (true, 5), some (true,
 5)]] (P_c_sMac1 x z c (s.items.getD 1 default) (prsO0 x.bindings (s.items.getD 2 default))) (.f [27, 28] [Ob.box [AC.ref 3, AC.ref 4, vI x.scope, vI x.vari, vI x.steps, vI z, vI
 (if bmE x (s.items.getD 1 default) = 0 then c else cdF c (bmE x (s.items.getD 1 default)))], Ob.dead, Ob.dead, Ob.arr true 4 (List.map bindingC (if 200 ≤ (↑x.macros.length : Int)
 then x.bindings else bdL x (s.items.getD 1 default) 4 (↑x.macros.length : Int))), Ob.arr true 3 (List.map rulesC (bmL x (prsO0 x.bindings (s.items.getD 2 default))))] (AV.tup
 []))))))))))))))))) (by
  dsimp only [teasy, P_c_sSynX]
  have g1 := wX_eq x
  have e2 : ∀ j, j < s.items.length → wY (s.items.getD j default) ≤ wY s := fun j hj => by have := @sumBy_mem _ wY s.items _ (getD_mem' hj); have := wY_eq s; omega
  have g2 : bmE x (s.items.getD 1 default) = if 200 ≤ (x.macros.length : Int) then 8 else bdE x (s.items.getD 1 default).text (s.items.getD 1 default).scopes := rfl
  have g3 := @bdL_yes x (s.items.getD 1 default) 4 (x.macros.length : Int)
  have g5 : (s.items.map syntaxC)[1]? = some (syntaxF (s.items.getD 1 default)) := syntaxGet (by have := h.2.2.1; omega)
  have g6 : (s.items.map syntaxC)[2]? = some (syntaxF (s.items.getD 2 default)) := syntaxGet (by have := h.2.2.1; omega)
  have g4 : prsB0 x.bindings (s.items.getD 2 default) = true → prsO0 x.bindings (s.items.getD 2 default) = prsR (s.items.getD 2 default) := fun h => if_pos h
  with_reducible repeat' (first | apply And.intro | exact zR | (intro; skip) | apply c_sParse0 | apply c_sStrI | apply c_sMac1)
  all_goals (try simp only [std, inj] at *)
  all_goals with_reducible repeat' apply And.intro
  all_goals (try (first | with_reducible apply c_sParse0 | with_reducible apply c_sStrI | with_reducible apply c_sMac1 | (simp only [← List.map_append]; first | with_reducible apply c_sParse0 | with_reducible apply c_sStrI | with_reducible apply c_sMac1)))
  all_goals (try (first | exact z | grind [bmL, snocI, snocS, rowSnoc])))
abbrev P_c_sLoad  : Ct := ⟨5, [], [], [.arr true 4 ((baQ 9).bindings.map bindingC), .arr true 3 ((baQ 9).macros.map rulesC)], .sv (.agg [.ref 0, .ref 1, vI (baQ 9).scope, vI (baQ 9).vari, vI (baQ 9).steps])⟩
def lc_sLoadLa  : Lp Nat := .mk 29 0 (fun x => [(0, SV.one (AC.ptr 0 0)), (1, SV.one (AC.ptr 1 0)), (14, SV.one (AC.ref 2)), (15, li 9), (16, hs x 0)]) (fun x => [Ob.box [AC.val
 (Cell.lit (Value.slice none 0 0)), AC.val (Cell.lit (Value.slice none 0 0)), vI 0, vI 0, vI 0], Ob.box [AC.ref 3, AC.ref 4, ha x 3, ha x 4, ha x 5, vI 0, vI 0], Ob.arr true 4
 (List.map datumC basD), ho x 1, ho x 2]) (fun k => [.s (li (↑k : Int)), .o (Ob.arr true 4 (List.map bindingC (baQ k).bindings)), .o (Ob.arr true 3 (List.map rulesC (baQ
 k).macros)), .a (vI (baQ k).scope), .a (vI (baQ k).vari), .a (vI (baQ k).steps)]) (fun k => k ≤ 9 ∧ 9 ≤ 9223372036854775807) (fun k => 9 - k) [.mk True (.exit 0) (fun x => [(0,
 SV.one (AC.ptr 0 0)), (1, SV.one (AC.ptr 1 0))]) (fun x => [Ob.box [AC.val (Cell.lit (Value.slice none 0 0)), AC.val (Cell.lit (Value.slice none 0 0)), vI 0, vI 0, vI 0], Ob.box
 [AC.ref 2, AC.ref 3, ha x 2, ha x 3, ha x 4, vI 0, vI 0], ho x 0, ho x 1]) [.o (Ob.arr true 4 (List.map bindingC (baQ 9).bindings)), .o (Ob.arr true 3 (List.map rulesC (baQ
 9).macros)), .a (vI (baQ 9).scope), .a (vI (baQ 9).vari), .a (vI (baQ 9).steps)]]
theorem Sc_sLoadLa  : Lp.Sem Tryz.prog (loopAt Tryz.f5 0) lc_sLoadLa := lpOK (fun k => .i ((↑k : Int) < 9) (.p (0 ≤ (↑k : Int) ∧ (↑k : Int).toNat < 9) (.w (.cells (datumF
 (basD.getD (↑k : Int).toNat default))) (.p ((List.map datumC basD)[(↑k : Int).toNat]? = some (datumF (basD.getD (↑k : Int).toNat default))) (.d [.rd] (P_c_sOf (basD.getD (↑k :
 Int).toNat default)) (.d [.ptr, .rd] (P_c_sSynX (baQ k) 0 0 (synD (basD.getD (↑k : Int).toNat default))) (.r ((↑k : Int) + 1) (.g [0, 1, 2, 11, 12] (k + 1) [.s (li ((↑k : Int) +
 1)), .o (Ob.arr true 4 (List.map bindingC ((baQ k).bindings ++ [Binding.mk ((synD (basD.getD (↑k : Int).toNat default)).items.getD 1 default).text ((synD (basD.getD (↑k :
 Int).toNat default)).items.getD 1 default).scopes 4 (↑(baQ k).macros.length : Int)]))), .o (Ob.arr true 3 (List.map rulesC ((baQ k).macros ++ [prsR ((synD (basD.getD (↑k :
 Int).toNat default)).items.getD 2 default)]))), .a (vI (baQ k).scope), .a (vI (baQ k).vari), .a (vI (baQ k).steps)]))))))) (.o 0 [0, 1, 3, 4] [.o (Ob.arr true 4 (List.map bindingC
 (baQ k).bindings)), .o (Ob.arr true 3 (List.map rulesC (baQ k).macros)), .a (vI (baQ k).scope), .a (vI (baQ k).vari), .a (vI (baQ k).steps)])) (by
  intro k h; try dsimp only [teasy, nthW, lc_sLoadLa] at h ⊢
  have g1 := @ba_facts k
  have g2 := ba_len
  have g3 := baQ_succ k
  with_reducible repeat' (first | apply And.intro | exact zR | (intro; skip) | apply c_sPBas | apply c_sOf | apply c_sSynX)
  all_goals (try simp only [std, inj] at *)
  all_goals with_reducible repeat' apply And.intro
  all_goals (try (first | with_reducible apply c_sPBas | with_reducible apply c_sOf | with_reducible apply c_sSynX | (simp only [← List.map_append]; first | with_reducible apply c_sPBas | with_reducible apply c_sOf | with_reducible apply c_sSynX)))
  all_goals (try (first | exact z | grind [stpB, idB, ruB, snocI, snocS, rowSnoc])))
theorem c_sLoad   : P_c_sLoad := fnOK Tryz.call5 Tryz.func5 (.c [] c_sNewExpander (.c [] c_sBase (.c [.rd] c_sPBas (.h (9 ≤ 9223372036854775807) (.w (.ghost (.nilbox 2 1 true 3)) (.l
 lc_sLoadLa Sc_sLoadLa [0, 2, 3, 1, 4] [.s (li 0), .o (Ob.arr true 4 (List.map bindingC coreBindings)), .o (Ob.arr true 3 []), .a (vI 0), .a (vI 0), .a (vI 200)] 0 (.t (.f [2, 3]
 [Ob.arr true 4 (List.map bindingC (baQ 9).bindings), Ob.arr true 3 (List.map rulesC (baQ 9).macros)] (AV.sv (SV.agg [AC.ref 0, AC.ref 1, vI (baQ 9).scope, vI (baQ 9).vari, vI (baQ
 9).steps]))) .q))))))) (by
  dsimp only [teasy, P_c_sLoad, nthW, lc_sLoadLa]
  have g2 := ba_len
  have g3 := baQ_zero
  with_reducible repeat' (first | apply And.intro | exact zR | (intro; skip) | apply c_sPBas | apply c_sOf | apply c_sSynX)
  all_goals (try simp only [std, inj] at *)
  all_goals with_reducible repeat' apply And.intro
  all_goals (try (first | with_reducible apply c_sPBas | with_reducible apply c_sOf | with_reducible apply c_sSynX | (simp only [← List.map_append]; first | with_reducible apply c_sPBas | with_reducible apply c_sOf | with_reducible apply c_sSynX)))
  all_goals (try (first | exact z | grind [snocI, snocS, rowSnoc])))
abbrev P_c_iLoad  : Ct := ⟨6, [], [], [.arr true 4 ((baQ 9).bindings.map bindingC), .arr true 3 ((baQ 9).macros.map rulesC)], .sv (.agg [.ref 0, .ref 1, vI (baQ 9).scope, vI (baQ 9).vari, vI (baQ 9).steps])⟩
def lc_iLoadLa  : Lp Nat := .mk 43 0 (fun x => [(0, SV.one (AC.ptr 0 0)), (1, SV.one (AC.ptr 1 0)), (15, SV.one (AC.ref 2)), (16, li 9), (17, hs x 0)]) (fun x => [Ob.box [AC.val
 (Cell.lit (Value.slice none 0 0)), AC.val (Cell.lit (Value.slice none 0 0)), vI 0, vI 0, vI 0], Ob.box [AC.ref 3, AC.ref 4, ha x 3, ha x 4, ha x 5, vI 0], Ob.arr true 4 (List.map
 datumC basD), ho x 1, ho x 2]) (fun k => [.s (li (↑k : Int)), .o (Ob.arr true 4 (List.map bindingC (baQ k).bindings)), .o (Ob.arr true 3 (List.map rulesC (baQ k).macros)), .a (vI
 (baQ k).scope), .a (vI (baQ k).vari), .a (vI (baQ k).steps)]) (fun k => k ≤ 9 ∧ 9 ≤ 9223372036854775807) (fun k => 9 - k) [.mk True (.exit 0) (fun x => [(0, SV.one (AC.ptr 0 0)),
 (1, SV.one (AC.ptr 1 0))]) (fun x => [Ob.box [AC.val (Cell.lit (Value.slice none 0 0)), AC.val (Cell.lit (Value.slice none 0 0)), vI 0, vI 0, vI 0], Ob.box [AC.ref 2, AC.ref 3, ha
 x 2, ha x 3, ha x 4, vI 0], ho x 0, ho x 1]) [.o (Ob.arr true 4 (List.map bindingC (baQ 9).bindings)), .o (Ob.arr true 3 (List.map rulesC (baQ 9).macros)), .a (vI (baQ 9).scope),
 .a (vI (baQ 9).vari), .a (vI (baQ 9).steps)]]
theorem Sc_iLoadLa  : Lp.Sem Tryz.prog (loopAt Tryz.f6 0) lc_iLoadLa := lpOK (fun k => .i ((↑k : Int) < 9) (.p (0 ≤ (↑k : Int) ∧ (↑k : Int).toNat < 9) (.w (.cells (datumF
 (basD.getD (↑k : Int).toNat default))) (.p ((List.map datumC basD)[(↑k : Int).toNat]? = some (datumF (basD.getD (↑k : Int).toNat default))) (.w (.draw [(13, [22])]) (.w (.cells
 (datumF ((basD.getD (↑k : Int).toNat default).items.getD 2 default))) (.p ((0 : Int) ≤ 2 ∧ (List.map datumC (basD.getD (↑k : Int).toNat default).items)[2]? = some (datumF
 ((basD.getD (↑k : Int).toNat default).items.getD 2 default))) (.d [.rd] (P_c_iOf ((basD.getD (↑k : Int).toNat default).items.getD 2 default)) (.d [.rd, .rd] (P_c_iParse0 (baQ
 k).bindings (synD ((basD.getD (↑k : Int).toNat default).items.getD 2 default))) (.w (.draw [(6, [1, 3, 4])]) (.w (.cells (datumF ((basD.getD (↑k : Int).toNat default).items.getD 1
 default))) (.p ((0 : Int) ≤ 1 ∧ (List.map datumC (basD.getD (↑k : Int).toNat default).items)[1]? = some (datumF ((basD.getD (↑k : Int).toNat default).items.getD 1 default))) (.d
 [.rd] (P_c_iOf ((basD.getD (↑k : Int).toNat default).items.getD 1 default)) (.d [.ptr, .rd, .rd] (P_c_iMac (baQ k) 0 (synD ((basD.getD (↑k : Int).toNat default).items.getD 1
 default)) (prsO0 (baQ k).bindings (synD ((basD.getD (↑k : Int).toNat default).items.getD 2 default)))) (.r ((↑k : Int) + 1) (.g [0, 1, 2, 34, 35] (k + 1) [.s (li ((↑k : Int) +
 1)), .o (Ob.arr true 4 (List.map bindingC (if bmE (baQ k) (synD ((basD.getD (↑k : Int).toNat default).items.getD 1 default)) = 0 then (baQ k).bindings ++ [Binding.mk (synD
 ((basD.getD (↑k : Int).toNat default).items.getD 1 default)).text (synD ((basD.getD (↑k : Int).toNat default).items.getD 1 default)).scopes 4 (↑(baQ k).macros.length : Int)] else
 (baQ k).bindings))), .o (Ob.arr true 3 (List.map rulesC (if bmE (baQ k) (synD ((basD.getD (↑k : Int).toNat default).items.getD 1 default)) = 0 then (baQ k).macros ++ [prsO0 (baQ
 k).bindings (synD ((basD.getD (↑k : Int).toNat default).items.getD 2 default))] else (baQ k).macros))), .a (vI (baQ k).scope), .a (vI (baQ k).vari), .a (vI (baQ
 k).steps)]))))))))))))))) (.o 0 [0, 1, 3, 4] [.o (Ob.arr true 4 (List.map bindingC (baQ k).bindings)), .o (Ob.arr true 3 (List.map rulesC (baQ k).macros)), .a (vI (baQ k).scope),
 .a (vI (baQ k).vari), .a (vI (baQ k).steps)])) (by
  intro k h; try dsimp only [teasy, nthW, lc_iLoadLa] at h ⊢
  have g1 := @ba_facts k
  have g2 := ba_len
  have g3 := baQ_succ k
  have g4 : prsB0 (baQ k).bindings (ruB (basD.getD k default)) = true → prsO0 (baQ k).bindings (ruB (basD.getD k default)) = prsR (ruB (basD.getD k default)) := fun h => if_pos h
  have g5 := wD_eq (basD.getD k default)
  have g6 := fun j h => @sumBy_mem _ wD (basD.getD k default).items ((basD.getD k default).items.getD j default) h
  with_reducible repeat' (first | apply And.intro | exact zR | (intro; skip) | apply c_iPBas | apply c_iOf | apply c_iParse0 | apply c_iMac)
  all_goals (try simp only [std, inj] at *)
  all_goals with_reducible repeat' apply And.intro
  all_goals (try (first | with_reducible apply c_iPBas | with_reducible apply c_iOf | with_reducible apply c_iParse0 | with_reducible apply c_iMac | (simp only [← List.map_append]; first | with_reducible apply c_iPBas | with_reducible apply c_iOf | with_reducible apply c_iParse0 | with_reducible apply c_iMac)))
  all_goals (try (first | exact z | grind [stpB, getD_mem', snocI, snocS, rowSnoc])))
theorem c_iLoad   : P_c_iLoad := fnOK Tryz.call6 Tryz.func6 (.c [] c_iNewExpander (.c [] c_iBase (.c [.rd] c_iPBas (.h (9 ≤ 9223372036854775807) (.w (.ghost (.nilbox 2 1 true 3)) (.l
 lc_iLoadLa Sc_iLoadLa [0, 2, 3, 1, 4] [.s (li 0), .o (Ob.arr true 4 (List.map bindingC coreBindings)), .o (Ob.arr true 3 []), .a (vI 0), .a (vI 0), .a (vI 200)] 0 (.t (.f [2, 3]
 [Ob.arr true 4 (List.map bindingC (baQ 9).bindings), Ob.arr true 3 (List.map rulesC (baQ 9).macros)] (AV.sv (SV.agg [AC.ref 0, AC.ref 1, vI (baQ 9).scope, vI (baQ 9).vari, vI (baQ
 9).steps]))) .q))))))) (by
  dsimp only [teasy, P_c_iLoad, nthW, lc_iLoadLa]
  have g2 := ba_len
  have g3 := baQ_zero
  with_reducible repeat' (first | apply And.intro | exact zR | (intro; skip) | apply c_iPBas | apply c_iOf | apply c_iParse0 | apply c_iMac)
  all_goals (try simp only [std, inj] at *)
  all_goals with_reducible repeat' apply And.intro
  all_goals (try (first | with_reducible apply c_iPBas | with_reducible apply c_iOf | with_reducible apply c_iParse0 | with_reducible apply c_iMac | (simp only [← List.map_append]; first | with_reducible apply c_iPBas | with_reducible apply c_iOf | with_reducible apply c_iParse0 | with_reducible apply c_iMac)))
  all_goals (try (first | exact z | grind [snocI, snocS, rowSnoc])))
abbrev P_c_sNewW  : Ct := ⟨10, [], [], [.arr true 4 ((baQ 9).bindings.map bindingC), .arr true 3 ((baQ 9).macros.map rulesC)], .sv (.agg [.ref 0, .ref 1, vI (baQ 9).scope, vI (baQ 9).vari, vI (baQ 9).steps, nilI, nilI])⟩
theorem c_sNewW   : P_c_sNewW := fnOK Tryz.call10 Tryz.func10 (.c [] c_sLoad (.f [1, 2] [Ob.arr true 4 (List.map bindingC (baQ 9).bindings), Ob.arr true 3 (List.map rulesC (baQ
 9).macros)] (AV.sv (SV.agg [AC.ref 0, AC.ref 1, vI (baQ 9).scope, vI (baQ 9).vari, vI (baQ 9).steps, AC.val (Cell.lit (Value.slice none 0 0)), AC.val (Cell.lit (Value.slice none 0
 0))])))) (by
  dsimp only [teasy, P_c_sNewW]
  with_reducible repeat' (first | apply And.intro | exact zR | (intro; skip))
  all_goals (try simp only [std, inj] at *)
  all_goals with_reducible repeat' apply And.intro
  all_goals (try (first | exact z | grind [snocI, snocS, rowSnoc])))
abbrev P_c_iNewW  : Ct := ⟨11, [], [], [.arr true 4 ((baQ 9).bindings.map bindingC), .arr true 3 ((baQ 9).macros.map rulesC)], .sv (.agg [.ref 0, .ref 1, vI (baQ 9).scope, vI (baQ 9).vari, vI (baQ 9).steps, nilI, nilI])⟩
theorem c_iNewW   : P_c_iNewW := fnOK Tryz.call11 Tryz.func11 (.c [] c_iLoad (.f [1, 2] [Ob.arr true 4 (List.map bindingC (baQ 9).bindings), Ob.arr true 3 (List.map rulesC (baQ
 9).macros)] (AV.sv (SV.agg [AC.ref 0, AC.ref 1, vI (baQ 9).scope, vI (baQ 9).vari, vI (baQ 9).steps, AC.val (Cell.lit (Value.slice none 0 0)), AC.val (Cell.lit (Value.slice none 0
 0))])))) (by
  dsimp only [teasy, P_c_iNewW]
  with_reducible repeat' (first | apply And.intro | exact zR | (intro; skip))
  all_goals (try simp only [std, inj] at *)
  all_goals with_reducible repeat' apply And.intro
  all_goals (try (first | exact z | grind [snocI, snocS, rowSnoc])))
end Go.Proofs.YtjgbkigdnjalkaaGreatDoor
end
section
namespace Go.Proofs.YtjgbkigdnjalkaaGreatDoor
open Go Go.Proofs.YtjgbkigdnjalkaaGreatDoor.Ab
set_option linter.unusedVariables false
set_option linter.unusedSimpArgs false
set_option maxHeartbeats 4000000
abbrev P_c_markIntS (L : List Int) (n : Int) : Ct := ⟨61, [.arr true 1 (L.map intC)], [.one (.ref 0), li n], [.arr true 1 ((seqM mkI cOne L n).map intC)], .sv (li (n + L.length))⟩
def lc_markIntSLa (L : List Int) (n : Int) : Lp Nat := .mk 19 1 (fun x => [(0, SV.one (AC.ref 0)), (1, hs x 1), (5, hs x 0)]) (fun x => [ho x 2]) (fun k => [.s (li (↑k : Int)), .s
 (li (n + (↑k : Int))), .o (Ob.arr true 1 (List.map intC (mkTo mkI cOne L n k)))]) (fun k => k ≤ L.length ∧ L.length ≤ 9223372036854775807) (fun k => L.length - k) [.mk True (.exit
 0) (fun x => [(1, hs x 0)]) (fun x => [ho x 1]) [.s (li (n + (↑L.length : Int))), .o (Ob.arr true 1 (List.map intC (seqM mkI cOne L n)))]]
theorem Sc_markIntSLa (L : List Int) (n : Int) (h0 : 0 ≤ n) (h : n + (↑L.length : Int) ≤ 100000000000000) : Lp.Sem Tryz.prog (loopAt Tryz.f61 0) (lc_markIntSLa L n) := lpOK (fun k
 => .z intC (mkTo mkI cOne L n k) (.i ((↑k : Int) < (↑(List.map intC (mkTo mkI cOne L n k)).length : Int)) (.p (0 ≤ (↑k : Int) ∧ (↑k : Int).toNat < (List.map intC (mkTo mkI cOne L
 n k)).length) (.w (.cells (intC (L.getD (↑k : Int).toNat default))) (.p ((List.map intC (mkTo mkI cOne L n k))[(↑k : Int).toNat]? = some [cI (L.getD (↑k : Int).toNat 0)]) (.r (n +
 (↑k : Int) + 1) (.r ((↑k : Int) + 1) (.g [0] (k + 1) [.s (li ((↑k : Int) + 1)), .s (li (n + (↑k : Int) + 1)), .o (Ob.arr true 1 ((List.map intC (mkTo mkI cOne L n k)).set (↑k :
 Int).toNat [cI (n + (↑k : Int))]))])))))) (.o 0 [0] [.s (li (n + (↑k : Int))), .o (Ob.arr true 1 (List.map intC (mkTo mkI cOne L n k)))]))) (by
  intro k h; try dsimp only [teasy, nthW, lc_markIntSLa] at h ⊢
  with_reducible repeat' (first | apply And.intro | exact zR | (intro; skip))
  all_goals (try simp only [std, stdM, inj] at *)
  all_goals with_reducible repeat' apply And.intro
  all_goals (try (first | exact z | ((first | refine rowGet ?_ | refine getC ?_ rfl); (first | omega | (simp only [std, stdM]; omega) | grind)) | (refine set_row ?_; (simp only [List.length_map, List.length_set, mkTo_len]; omega)) | (refine mkToRow ?_; (first | omega | (simp only [std, stdM]; omega) | grind)) | (refine mkTo_row ?_ rfl; (first | omega | (simp only [std, stdM]; omega) | grind)) | (refine mkTo_step ?_ ?_; (first | omega | (simp only [std, stdM]; omega) | grind); (first | grind [mkTo_all, mkI, cOne_take, intC, mkTo_get, snocI, snocS, rowSnoc])) | grind [mkTo_all, mkI, cOne_take, intC, mkTo_get, snocI, snocS, rowSnoc])))
theorem c_markIntS (L : List Int) (n : Int) (h0 : 0 ≤ n) (h : n + L.length ≤ 100000000000000)  : P_c_markIntS L n := fnOK Tryz.call61 Tryz.func61 (.l (lc_markIntSLa L n)
 (Sc_markIntSLa L n h0 h) [0] [.s (li 0), .s (li n), .o (Ob.arr true 1 (List.map intC L))] 0 (.t (.f [] [Ob.arr true 1 (List.map intC (seqM mkI cOne L n))] (AV.sv (li (n +
 (↑L.length : Int))))) .q)) (by
  dsimp only [teasy, P_c_markIntS, nthW, lc_markIntSLa]
  with_reducible repeat' (first | apply And.intro | exact zR | (intro; skip))
  all_goals (try simp only [std, stdM, inj] at *)
  all_goals with_reducible repeat' apply And.intro
  all_goals (try (first | exact z | ((first | refine rowGet ?_ | refine getC ?_ rfl); (first | omega | (simp only [std, stdM]; omega) | grind)) | (refine set_row ?_; (simp only [List.length_map, List.length_set, mkTo_len]; omega)) | (refine mkToRow ?_; (first | omega | (simp only [std, stdM]; omega) | grind)) | (refine mkTo_row ?_ rfl; (first | omega | (simp only [std, stdM]; omega) | grind)) | (refine mkTo_step ?_ ?_; (first | omega | (simp only [std, stdM]; omega) | grind); (first | grind [mkTo_zero, snocI, snocS, rowSnoc])) | grind [mkTo_zero, snocI, snocS, rowSnoc])))
abbrev P_c_markText (n : Int) : Ct := ⟨60, [], [li n], [], .sv (ls (mText n))⟩
def lc_markTextLa (n : Int) : Lp (Int × List UInt8) := .mk 20 0 (fun x => [(0, hs x 0), (3, hs x 1)]) (fun x => []) (fun k => [.s (li k.fst), .s (ls (mkS k.snd))]) (fun k => 0 ≤
 k.fst ∧ k.fst ≤ n ∧ digs k.fst.toNat ++ k.snd = digs n.toNat) (fun k => k.fst.toNat) [.mk True (.exit 0) (fun x => [(3, hs x 0)]) (fun x => []) [.s (ls (mkS (digs n.toNat)))]]
theorem Sc_markTextLa (n : Int) (h0 : 0 ≤ n) (h : n ≤ 100000000000000) : Lp.Sem Tryz.prog (loopAt Tryz.f60 0) (lc_markTextLa n) := lpOK (fun k => .i (0 < k.fst) (.p ((10 : Int) ≠
 0) (.r (48 + k.fst.tmod 10) (.p (rng IntKind.u8 (48 + k.fst.tmod 10)) (.w (.bytes [UInt8.ofNat (48 + k.fst.tmod 10).toNat]) (.p ([[Cell.lit (Value.int IntKind.u8 (48 + k.fst.tmod
 10))]] = [[Cell.lit (Value.int IntKind.u8 (↑(UInt8.ofNat (48 + k.fst.tmod 10).toNat).toNat : Int))]]) (.p (1 + k.snd.length ≤ 9223372036854775807) (.p ((10 : Int) ≠ 0) (.r
 (k.fst.tdiv 10) (.g [] (k.fst.tdiv 10, [UInt8.ofNat (48 + k.fst.tmod 10).toNat] ++ k.snd) [.s (li (k.fst.tdiv 10)), .s (ls (ByteArray.mk ([UInt8.ofNat (48 + k.fst.tmod 10).toNat]
 ++ k.snd).toArray))]))))))))) (.o 0 [] [.s (ls (mkS k.snd))])) (by
  intro k h; try dsimp only [teasy, nthW, lc_markTextLa] at h ⊢
  obtain ⟨i, l⟩ := k
  simp only at *
  obtain ⟨g1, g2, g3⟩ := h
  have g4 : l.length ≤ 100000000000000 := by
    have := congrArg List.length g3
    have := digs_len n.toNat
    simp only [List.length_append] at *
    omega
  simp only [Int.tmod_eq_emod_of_nonneg g1, Int.tdiv_eq_ediv_of_nonneg g1]
  refine ⟨fun g => ?_, fun g => ?_⟩
  · refine ⟨by decide, by rw [rng64]; omega, by rw [rngu8]; omega, by rw [u8_int (by omega) (by omega)], by omega, by decide, by rw [rng64]; omega, by omega, rfl, ?_⟩
    exact ⟨by show 0 ≤ i / 10; omega, by show i / 10 ≤ n; omega, by show digs (i / 10).toNat ++ ([_] ++ l) = _; rw [← g3, digs_int g, List.append_assoc]⟩
  · refine ⟨trivial, ?_⟩
    have e : i = 0 := by omega
    subst e
    rw [show digs (0 : Int).toNat = [] from digs_zero] at g3
    rw [← g3]; rfl)
theorem c_markText (n : Int) (h0 : 0 ≤ n) (h : n ≤ 100000000000000)  : P_c_markText n := fnOK Tryz.call60 Tryz.func60 (.i (n ≤ 0) (.s (ls (ByteArray.mk #[(109 : UInt8), (48 :
 UInt8)]))) (.l (lc_markTextLa n) (Sc_markTextLa n h0 h) [] [.s (li n), .s (ls (ByteArray.mk #[]))] (n, []) (.t (.p (1 + (digs n.toNat).length ≤ 9223372036854775807) (.s (ls
 (ByteArray.mk ([(109 : UInt8)] ++ digs n.toNat).toArray)))) .q))) (by
  dsimp only [teasy, P_c_markText, nthW, lc_markTextLa]
  have g := digs_len n.toNat
  simp only [mText]
  with_reducible repeat' (first | apply And.intro | exact zR | (intro; skip))
  all_goals (try simp only [std, stdM, inj] at *)
  all_goals with_reducible repeat' apply And.intro
  all_goals (try (first | exact z | ((first | refine rowGet ?_ | refine getC ?_ rfl); (first | omega | (simp only [std, stdM]; omega) | grind)) | (refine set_row ?_; (simp only [List.length_map, List.length_set, mkTo_len]; omega)) | (refine mkToRow ?_; (first | omega | (simp only [std, stdM]; omega) | grind)) | (refine mkTo_row ?_ rfl; (first | omega | (simp only [std, stdM]; omega) | grind)) | (refine mkTo_step ?_ ?_; (first | omega | (simp only [std, stdM]; omega) | grind); (first | grind [mkS, snocI, snocS, rowSnoc])) | grind [mkS, snocI, snocS, rowSnoc])))
abbrev P_c_markDatumS (x : Datum) (n : Int) : Ct := ⟨67, [.arr true 4 (x.items.map datumC)], [.one (.ref 0), li n], [.arr true 4 ((seqM mkD cD x.items n).map datumC)], .sv (li (n + sumBy cD x.items))⟩
def lc_markDatumS_sLa (x : Datum) (n : Int) : Lp Nat := .mk 42 1 (fun x => [(0, SV.one (AC.ref 0)), (1, hs x 1), (5, hs x 0)]) (fun x => [ho x 2]) (fun k => [.s (li (↑k : Int)), .s
 (li (n + (↑(sumBy cD (List.take k x.items)) : Int))), .o (Ob.arr true 4 (List.map datumC (mkTo mkD cD x.items n k)))]) (fun k => k ≤ x.items.length ∧ x.items.length ≤
 9223372036854775807) (fun k => x.items.length - k) [.mk True (.exit 0) (fun x => [(1, hs x 0)]) (fun x => [ho x 1]) [.s (li (n + (↑(sumBy cD x.items) : Int))), .o (Ob.arr true 4
 (List.map datumC (seqM mkD cD x.items n)))]]
theorem Sc_markDatumS_sLa (x : Datum) (n : Int) (h0 : 0 ≤ n) (h : n + (↑(sumBy cD x.items) : Int) ≤ 100000000000000) (ih : ∀ (z : Datum), z ∈ x.items → ∀ (n : Int), 0 ≤ n → n +
 (↑(sumBy cD z.items) : Int) ≤ 100000000000000 → OK (P_c_markDatumS z n)) : Lp.Sem Tryz.prog (loopAt Tryz.f67 0) (lc_markDatumS_sLa x n) := lpOK (fun k => let v1 := (↑(sumBy cD
 (List.take k x.items)) : Int); let v2 := (x.items.getD (↑k : Int).toNat default); let v3 := (List.map datumC (mkTo mkD cD x.items n k)); let v10 := (n + v1 + 1 + 1); let v8 :=
 (List.map datumC v2.items); let v4 := [cI (n + v1), cI (n + v1 + 1), cS (mText v10), Cell.list v8]; let v5 := [cI (n + v1), cI (n + v1 + 1), cS v2.text, Cell.list v8]; let v6 :=
 [cI (n + v1), cI v2.number, cS v2.text, Cell.list v8]; let v7 := (n + v1 + 1 + 1 + 1); let v9 := (v3.set (↑k : Int).toNat v4); .z datumC (mkTo mkD cD x.items n k) (.i ((↑k : Int)
 < (↑(List.map datumC (mkTo mkD cD x.items n k)).length : Int)) (.p (0 ≤ (↑k : Int) ∧ (↑k : Int).toNat < v3.length) (.w (.cells (datumF v2)) (.p (v3[(↑k : Int).toNat]? = some
 (datumF v2)) (.r (n + v1 + 1) (.p (0 ≤ (↑k : Int) ∧ (↑k : Int).toNat < (v3.set (↑k : Int).toNat v6).length) (.w (.take v6 (v3.set (↑k : Int).toNat v5) 0) (.p ((v3.set (↑k :
 Int).toNat v6)[(↑k : Int).toNat]? = some v6) (.p ((v3.set (↑k : Int).toNat v6).set (↑k : Int).toNat v5 = v3.set (↑k : Int).toNat v5) (.r v10 (.d [.rd] (P_c_markText v10) (.p (0 ≤
 (↑k : Int) ∧ (↑k : Int).toNat < (v3.set (↑k : Int).toNat v5).length) (.w (.take v5 v9 0) (.p ((v3.set (↑k : Int).toNat v5)[(↑k : Int).toNat]? = some v5) (.p ((v3.set (↑k :
 Int).toNat v5).set (↑k : Int).toNat v4 = v3.set (↑k : Int).toNat v4) (.r v7 (.p (0 ≤ (↑k : Int) ∧ (↑k : Int).toNat < v9.length) (.w .sub (.p ((↑k : Int).toNat < v9.length) (.w
 (.subcall v4 v8 4) (.u [.own true 4, .rd] (P_c_markDatumS v2 v7) (.p (v9[(↑k : Int).toNat]? = some v4) (.p (some (Cell.list v8) = some (Cell.list v8)) (.p (∀ (x_1 : List Cell),
 x_1 ∈ List.map datumC v2.items → x_1.length = 4) (.p (OK (P_c_markDatumS v2 v7)) (.r ((↑k : Int) + 1) (.g [0] (k + 1) [.s (li ((↑k : Int) + 1)), .s (li (n + v1 + 1 + 1 + 1 +
 (↑(sumBy cD v2.items) : Int))), .o (Ob.arr true 4 (v9.set (↑k : Int).toNat [cI (n + v1), cI (n + v1 + 1), cS (mText v10), Cell.list (List.map datumC (seqM mkD cD v2.items
 v7))]))])))))))))))))))))))))))))) (.o 0 [0] [.s (li (n + v1)), .o (Ob.arr true 4 v3)]))) (by
  intro k h; try dsimp only [teasy, nthW, lc_markDatumS_sLa] at h ⊢
  have g0 := sumBy_takeLe cD x.items (k + 1)
  with_reducible repeat' (first | apply And.intro | exact zR | exact ih | (intro; skip) | apply c_markText | apply ih)
  all_goals (try simp only [std, stdM, inj] at *)
  all_goals with_reducible repeat' apply And.intro
  all_goals (try (first | with_reducible apply c_markText | with_reducible apply ih | (simp only [← List.map_append]; first | with_reducible apply c_markText | with_reducible apply ih)))
  all_goals (try (first | exact z | ((first | refine rowGet ?_ | refine getC ?_ rfl); (first | omega | (simp only [std, stdM]; omega) | grind)) | (refine set_row ?_; (simp only [List.length_map, List.length_set, mkTo_len]; omega)) | (refine mkToRow ?_; (first | omega | (simp only [std, stdM]; omega) | grind)) | (refine mkTo_row ?_ rfl; (first | omega | (simp only [std, stdM]; omega) | grind)) | (refine mkTo_step ?_ ?_; (first | omega | (simp only [std, stdM]; omega) | grind); (first | exact mkD_C _ _ | grind [sumBy_step, getD_mem', cD_eq, mkD_C, mkTo_all, snocI, snocS, rowSnoc])) | grind [sumBy_step, getD_mem', cD_eq, mkD_C, mkTo_all, snocI, snocS, rowSnoc])))
theorem c_markDatumS_s (x : Datum) (n : Int) (h0 : 0 ≤ n) (h : n + sumBy cD x.items ≤ 100000000000000) (ih : ∀ z ∈ x.items, ∀ (n : Int) (h0 : 0 ≤ n) (h : n + sumBy cD z.items ≤
 100000000000000), P_c_markDatumS z n)  : P_c_markDatumS x n := fnOK Tryz.call67 Tryz.func67 (.l (lc_markDatumS_sLa x n) (Sc_markDatumS_sLa x n h0 h ih) [0] [.s (li 0), .s (li n), .o
 (Ob.arr true 4 (List.map datumC x.items))] 0 (.t (.f [] [Ob.arr true 4 (List.map datumC (seqM mkD cD x.items n))] (AV.sv (li (n + (↑(sumBy cD x.items) : Int))))) .q)) (by
  dsimp only [teasy, P_c_markDatumS, nthW, lc_markDatumS_sLa]
  have gl := cD_len x.items
  with_reducible repeat' (first | apply And.intro | exact zR | exact ih | (intro; skip) | apply c_markText)
  all_goals (try simp only [std, stdM, inj] at *)
  all_goals with_reducible repeat' apply And.intro
  all_goals (try (first | with_reducible apply c_markText | with_reducible apply ih | (simp only [← List.map_append]; first | with_reducible apply c_markText | with_reducible apply ih)))
  all_goals (try (first | exact z | ((first | refine rowGet ?_ | refine getC ?_ rfl); (first | omega | (simp only [std, stdM]; omega) | grind)) | (refine set_row ?_; (simp only [List.length_map, List.length_set, mkTo_len]; omega)) | (refine mkToRow ?_; (first | omega | (simp only [std, stdM]; omega) | grind)) | (refine mkTo_row ?_ rfl; (first | omega | (simp only [std, stdM]; omega) | grind)) | (refine mkTo_step ?_ ?_; (first | omega | (simp only [std, stdM]; omega) | grind); (first | grind [mkTo_all, snocI, snocS, rowSnoc])) | grind [mkTo_all, snocI, snocS, rowSnoc])))
theorem c_markDatumS (x : Datum) : ∀ (n : Int) (h0 : 0 ≤ n) (h : n + sumBy cD x.items ≤ 100000000000000), P_c_markDatumS x n := Datum.ind (P := fun x => ∀ (n : Int) (h0 : 0 ≤ n) (h : n + sumBy cD x.items ≤ 100000000000000), P_c_markDatumS x n) (fun x ih n h0 h => c_markDatumS_s x n h0 h ih) x
theorem c_markDatumSL (L : List Datum) (n : Int) (h0 : 0 ≤ n) (h : n + sumBy cD L ≤ 100000000000000) : P_c_markDatumS { (default : Datum) with items := L } n := c_markDatumS { (default : Datum) with items := L } n h0 h
abbrev P_c_markCoreS (x : Core) (n : Int) : Ct := ⟨68, [.arr true 8 (x.kids.map coreC)], [.one (.ref 0), li n], [.arr true 8 ((seqM mkC cC x.kids n).map coreC)], .sv (li (n + sumBy cC x.kids))⟩
def lc_markCoreS_sLa (x : Core) (n : Int) : Lp Nat := .mk 74 1 (fun x => [(0, SV.one (AC.ref 0)), (1, hs x 1), (5, hs x 0)]) (fun x => [ho x 2]) (fun k => [.s (li (↑k : Int)), .s
 (li (n + (↑(sumBy cC (List.take k x.kids)) : Int))), .o (Ob.arr true 8 (List.map coreC (mkTo mkC cC x.kids n k)))]) (fun k => k ≤ x.kids.length ∧ x.kids.length ≤
 9223372036854775807) (fun k => x.kids.length - k) [.mk True (.exit 0) (fun x => [(1, hs x 0)]) (fun x => [ho x 1]) [.s (li (n + (↑(sumBy cC x.kids) : Int))), .o (Ob.arr true 8
 (List.map coreC (seqM mkC cC x.kids n)))]]
theorem Sc_markCoreS_sLa (x : Core) (n : Int) (h0 : 0 ≤ n) (h : n + (↑(sumBy cC x.kids) : Int) ≤ 100000000000000) (ih : ∀ (z : Core), z ∈ x.kids → ∀ (n : Int), 0 ≤ n → n + (↑(sumBy
 cC z.kids) : Int) ≤ 100000000000000 → OK (P_c_markCoreS z n)) : Lp.Sem Tryz.prog (loopAt Tryz.f68 0) (lc_markCoreS_sLa x n) := lpOK (fun k => let v8 := (↑(sumBy cC (List.take k
 x.kids)) : Int); let v15 := (n + v8 + 1); let v7 := (x.kids.getD (↑k : Int).toNat default); let v24 := (List.map intC v7.params); let v18 := (List.map datumC v7.datum.items); let
 v21 := (List.map coreC v7.kids); let v1 := [cI (n + v8), cI v15, Cell.list v24, cI v7.datum.kind, cI v7.datum.number, cS v7.datum.text, Cell.list v18, Cell.list v21]; let v23 :=
 (n + v8 + 1 + 1); let v12 := (List.map intC (seqM mkI cOne v7.params v23)); let v10 := (↑(x.kids.getD (↑k : Int).toNat default).params.length : Int); let v22 := (n + v8 + 1 + 1 +
 v10); let v20 := (n + v8 + 1 + 1 + v10 + 1); let v17 := (n + v8 + 1 + 1 + v10 + 1 + 1); let v2 := [cI (n + v8), cI v15, Cell.list v12, cI v22, cI v20, cS (mText v17), Cell.list
 v18, Cell.list v21]; let v3 := [cI (n + v8), cI v15, Cell.list v12, cI v22, cI v20, cS v7.datum.text, Cell.list v18, Cell.list v21]; let v16 := (n + v8 + 1 + 1 + v10 + 1 + 1 + 1);
 let v4 := [cI (n + v8), cI v15, Cell.list v12, cI v22, cI v20, cS (mText v17), Cell.list (List.map datumC (seqM mkD cD v7.datum.items v16)), Cell.list v21]; let v5 := [cI (n +
 v8), cI v15, Cell.list v12, cI v22, cI v7.datum.number, cS v7.datum.text, Cell.list v18, Cell.list v21]; let v6 := [cI (n + v8), cI v15, Cell.list v12, cI v7.datum.kind, cI
 v7.datum.number, cS v7.datum.text, Cell.list v18, Cell.list v21]; let v13 := (List.map coreC (mkTo mkC cC x.kids n k)); let v9 := (v13.set (↑k : Int).toNat v1); let v11 := [cI (n
 + v8), cI v7.number, Cell.list v24, cI v7.datum.kind, cI v7.datum.number, cS v7.datum.text, Cell.list v18, Cell.list v21]; let v14 := (v9.set (↑k : Int).toNat v2); let v19 := (n +
 v8 + 1 + 1 + v10 + 1 + 1 + 1 + (↑(sumBy cD v7.datum.items) : Int)); .z coreC (mkTo mkC cC x.kids n k) (.i ((↑k : Int) < (↑(List.map coreC (mkTo mkC cC x.kids n k)).length : Int))
 (.p (0 ≤ (↑k : Int) ∧ (↑k : Int).toNat < v13.length) (.w (.cells (coreF v7)) (.p (v13[(↑k : Int).toNat]? = some (coreF v7)) (.r v15 (.p (0 ≤ (↑k : Int) ∧ (↑k : Int).toNat <
 (v13.set (↑k : Int).toNat v11).length) (.w (.take v11 v9 0) (.p ((v13.set (↑k : Int).toNat v11)[(↑k : Int).toNat]? = some v11) (.p ((v13.set (↑k : Int).toNat v11).set (↑k :
 Int).toNat v1 = v13.set (↑k : Int).toNat v1) (.r v23 (.p (0 ≤ (↑k : Int) ∧ (↑k : Int).toNat < v9.length) (.w .sub (.p ((↑k : Int).toNat < v9.length) (.w (.subcall v1 v24 1) (.u
 [.own true 1, .rd] (P_c_markIntS v7.params v23) (.p (v9[(↑k : Int).toNat]? = some v1) (.p (some (Cell.list v24) = some (Cell.list v24)) (.p (∀ (x_1 : List Cell), x_1 ∈ List.map
 intC v7.params → x_1.length = 1) (.p (OK (P_c_markIntS v7.params v23)) (.p (0 ≤ (↑k : Int) ∧ (↑k : Int).toNat < (v9.set (↑k : Int).toNat v6).length) (.w (.take v6 (v9.set (↑k :
 Int).toNat v5) 0) (.p ((v9.set (↑k : Int).toNat v6)[(↑k : Int).toNat]? = some v6) (.p ((v9.set (↑k : Int).toNat v6).set (↑k : Int).toNat v5 = v9.set (↑k : Int).toNat v5) (.r v20
 (.p (0 ≤ (↑k : Int) ∧ (↑k : Int).toNat < (v9.set (↑k : Int).toNat v5).length) (.w (.take v5 (v9.set (↑k : Int).toNat v3) 0) (.p ((v9.set (↑k : Int).toNat v5)[(↑k : Int).toNat]? =
 some v5) (.p ((v9.set (↑k : Int).toNat v5).set (↑k : Int).toNat v3 = v9.set (↑k : Int).toNat v3) (.r v17 (.d [.rd] (P_c_markText v17) (.p (0 ≤ (↑k : Int) ∧ (↑k : Int).toNat <
 (v9.set (↑k : Int).toNat v3).length) (.w (.take v3 v14 0) (.p ((v9.set (↑k : Int).toNat v3)[(↑k : Int).toNat]? = some v3) (.p ((v9.set (↑k : Int).toNat v3).set (↑k : Int).toNat v2
 = v9.set (↑k : Int).toNat v2) (.r v16 (.p (0 ≤ (↑k : Int) ∧ (↑k : Int).toNat < v14.length) (.w .sub (.p ((↑k : Int).toNat < v14.length) (.w (.subcall v2 v18 4) (.u [.own true 4,
 .rd] (P_c_markDatumS v7.datum v16) (.p (v14[(↑k : Int).toNat]? = some v2) (.p (some (Cell.list v18) = some (Cell.list v18)) (.p (∀ (x_1 : List Cell), x_1 ∈ List.map datumC
 v7.datum.items → x_1.length = 4) (.p (OK (P_c_markDatumS v7.datum v16)) (.p (0 ≤ (↑k : Int) ∧ (↑k : Int).toNat < (v14.set (↑k : Int).toNat v4).length) (.w .sub (.p ((↑k :
 Int).toNat < (v14.set (↑k : Int).toNat v4).length) (.w (.subcall v4 v21 8) (.u [.own true 8, .rd] (P_c_markCoreS v7 v19) (.p ((v14.set (↑k : Int).toNat v4)[(↑k : Int).toNat]? =
 some v4) (.p (some (Cell.list v21) = some (Cell.list v21)) (.p (∀ (x_1 : List Cell), x_1 ∈ List.map coreC v7.kids → x_1.length = 8) (.p (OK (P_c_markCoreS v7 v19)) (.r ((↑k : Int)
 + 1) (.g [0] (k + 1) [.s (li ((↑k : Int) + 1)), .s (li (n + v8 + 1 + 1 + v10 + 1 + 1 + 1 + (↑(sumBy cD v7.datum.items) : Int) + (↑(sumBy cC v7.kids) : Int))), .o (Ob.arr true 8
 ((v14.set (↑k : Int).toNat v4).set (↑k : Int).toNat [cI (n + v8), cI v15, Cell.list v12, cI v22, cI v20, cS (mText v17), Cell.list (List.map datumC (seqM mkD cD v7.datum.items
 v16)), Cell.list (List.map coreC (seqM mkC cC v7.kids v19))]))])))))))))))))))))))))))))))))))))))))))))))))))))))))) (.o 0 [0] [.s (li (n + v8)), .o (Ob.arr true 8 v13)]))) (by
  intro k h; try dsimp only [teasy, nthW, lc_markCoreS_sLa] at h ⊢
  have g0 := sumBy_takeLe cC x.kids (k + 1)
  with_reducible repeat' (first | apply And.intro | exact zR | exact ih | (intro; skip) | apply c_markIntS | apply c_markText | apply c_markDatumS | apply c_markDatumSL | apply ih)
  all_goals (try simp only [std, stdM, inj] at *)
  all_goals with_reducible repeat' apply And.intro
  all_goals (try (first | with_reducible apply c_markIntS | with_reducible apply c_markText | with_reducible apply c_markDatumS | with_reducible apply c_markDatumSL | with_reducible apply ih | (simp only [← List.map_append]; first | with_reducible apply c_markIntS | with_reducible apply c_markText | with_reducible apply c_markDatumS | with_reducible apply c_markDatumSL | with_reducible apply ih)))
  all_goals (try (first | exact z | ((first | refine rowGet ?_ | refine getC ?_ rfl); (first | omega | (simp only [std, stdM]; omega) | grind)) | (refine set_row ?_; (simp only [List.length_map, List.length_set, mkTo_len]; omega)) | (refine mkToRow ?_; (first | omega | (simp only [std, stdM]; omega) | grind)) | (refine mkTo_row ?_ rfl; (first | omega | (simp only [std, stdM]; omega) | grind)) | (refine mkTo_step ?_ ?_; (first | omega | (simp only [std, stdM]; omega) | grind); (first | exact mkC_C _ _ | grind [sumBy_step, getD_mem', cC_eq, mkC_C, mkTo_all, snocI, snocS, rowSnoc])) | grind [sumBy_step, getD_mem', cC_eq, mkC_C, mkTo_all, snocI, snocS, rowSnoc])))
theorem c_markCoreS_s (x : Core) (n : Int) (h0 : 0 ≤ n) (h : n + sumBy cC x.kids ≤ 100000000000000) (ih : ∀ z ∈ x.kids, ∀ (n : Int) (h0 : 0 ≤ n) (h : n + sumBy cC z.kids ≤
 100000000000000), P_c_markCoreS z n)  : P_c_markCoreS x n := fnOK Tryz.call68 Tryz.func68 (.l (lc_markCoreS_sLa x n) (Sc_markCoreS_sLa x n h0 h ih) [0] [.s (li 0), .s (li n), .o
 (Ob.arr true 8 (List.map coreC x.kids))] 0 (.t (.f [] [Ob.arr true 8 (List.map coreC (seqM mkC cC x.kids n))] (AV.sv (li (n + (↑(sumBy cC x.kids) : Int))))) .q)) (by
  dsimp only [teasy, P_c_markCoreS, nthW, lc_markCoreS_sLa]
  have gl := cC_len x.kids
  with_reducible repeat' (first | apply And.intro | exact zR | exact ih | (intro; skip) | apply c_markIntS | apply c_markText | apply c_markDatumS | apply c_markDatumSL)
  all_goals (try simp only [std, stdM, inj] at *)
  all_goals with_reducible repeat' apply And.intro
  all_goals (try (first | with_reducible apply c_markIntS | with_reducible apply c_markText | with_reducible apply c_markDatumS | with_reducible apply c_markDatumSL | with_reducible apply ih | (simp only [← List.map_append]; first | with_reducible apply c_markIntS | with_reducible apply c_markText | with_reducible apply c_markDatumS | with_reducible apply c_markDatumSL | with_reducible apply ih)))
  all_goals (try (first | exact z | ((first | refine rowGet ?_ | refine getC ?_ rfl); (first | omega | (simp only [std, stdM]; omega) | grind)) | (refine set_row ?_; (simp only [List.length_map, List.length_set, mkTo_len]; omega)) | (refine mkToRow ?_; (first | omega | (simp only [std, stdM]; omega) | grind)) | (refine mkTo_row ?_ rfl; (first | omega | (simp only [std, stdM]; omega) | grind)) | (refine mkTo_step ?_ ?_; (first | omega | (simp only [std, stdM]; omega) | grind); (first | grind [mkTo_all, snocI, snocS, rowSnoc])) | grind [mkTo_all, snocI, snocS, rowSnoc])))
theorem c_markCoreS (x : Core) : ∀ (n : Int) (h0 : 0 ≤ n) (h : n + sumBy cC x.kids ≤ 100000000000000), P_c_markCoreS x n := Core.ind (P := fun x => ∀ (n : Int) (h0 : 0 ≤ n) (h : n + sumBy cC x.kids ≤ 100000000000000), P_c_markCoreS x n) (fun x ih n h0 h => c_markCoreS_s x n h0 h ih) x
theorem c_markCoreSL (L : List Core) (n : Int) (h0 : 0 ≤ n) (h : n + sumBy cC L ≤ 100000000000000) : P_c_markCoreS { (default : Core) with kids := L } n := c_markCoreS { (default : Core) with kids := L } n h0 h
abbrev P_c_markSyntaxS (x : Syntax) (n : Int) : Ct := ⟨62, [.arr true 5 (x.items.map syntaxC)], [.one (.ref 0), li n], [.arr true 5 ((seqM mkY cY x.items n).map syntaxC)], .sv (li (n + sumBy cY x.items))⟩
def lc_markSyntaxS_sLa (x : Syntax) (n : Int) : Lp Nat := .mk 49 1 (fun x => [(0, SV.one (AC.ref 0)), (1, hs x 1), (5, hs x 0)]) (fun x => [ho x 2]) (fun k => [.s (li (↑k : Int)),
 .s (li (n + (↑(sumBy cY (List.take k x.items)) : Int))), .o (Ob.arr true 5 (List.map syntaxC (mkTo mkY cY x.items n k)))]) (fun k => k ≤ x.items.length ∧ x.items.length ≤
 9223372036854775807) (fun k => x.items.length - k) [.mk True (.exit 0) (fun x => [(1, hs x 0)]) (fun x => [ho x 1]) [.s (li (n + (↑(sumBy cY x.items) : Int))), .o (Ob.arr true 5
 (List.map syntaxC (seqM mkY cY x.items n)))]]
theorem Sc_markSyntaxS_sLa (x : Syntax) (n : Int) (h0 : 0 ≤ n) (h : n + (↑(sumBy cY x.items) : Int) ≤ 100000000000000) (ih : ∀ (z : Syntax), z ∈ x.items → ∀ (n : Int), 0 ≤ n → n +
 (↑(sumBy cY z.items) : Int) ≤ 100000000000000 → OK (P_c_markSyntaxS z n)) : Lp.Sem Tryz.prog (loopAt Tryz.f62 0) (lc_markSyntaxS_sLa x n) := lpOK (fun k => let v8 := (↑(sumBy cY
 (List.take k x.items)) : Int); let v12 := (n + v8 + 1 + 1); let v7 := (x.items.getD (↑k : Int).toNat default); let v13 := (List.map intC v7.scopes); let v11 := (List.map syntaxC
 v7.items); let v1 := [cI (n + v8), cI (n + v8 + 1), cS (mText v12), Cell.list v13, Cell.list v11]; let v10 := (n + v8 + 1 + 1 + 1); let v2 := [cI (n + v8), cI (n + v8 + 1), cS
 (mText v12), Cell.list (List.map intC (seqM mkI cOne v7.scopes v10)), Cell.list v11]; let v3 := [cI (n + v8), cI (n + v8 + 1), cS v7.text, Cell.list v13, Cell.list v11]; let v4 :=
 [cI (n + v8), cI v7.number, cS v7.text, Cell.list v13, Cell.list v11]; let v5 := (List.map syntaxC (mkTo mkY cY x.items n k)); let v6 := (n + v8 + 1 + 1 + 1 + (↑(x.items.getD (↑k
 : Int).toNat default).scopes.length : Int)); let v9 := (v5.set (↑k : Int).toNat v1); .z syntaxC (mkTo mkY cY x.items n k) (.i ((↑k : Int) < (↑(List.map syntaxC (mkTo mkY cY
 x.items n k)).length : Int)) (.p (0 ≤ (↑k : Int) ∧ (↑k : Int).toNat < v5.length) (.w (.cells (syntaxF v7)) (.p (v5[(↑k : Int).toNat]? = some (syntaxF v7)) (.r (n + v8 + 1) (.p (0
 ≤ (↑k : Int) ∧ (↑k : Int).toNat < (v5.set (↑k : Int).toNat v4).length) (.w (.take v4 (v5.set (↑k : Int).toNat v3) 0) (.p ((v5.set (↑k : Int).toNat v4)[(↑k : Int).toNat]? = some
 v4) (.p ((v5.set (↑k : Int).toNat v4).set (↑k : Int).toNat v3 = v5.set (↑k : Int).toNat v3) (.r v12 (.d [.rd] (P_c_markText v12) (.p (0 ≤ (↑k : Int) ∧ (↑k : Int).toNat < (v5.set
 (↑k : Int).toNat v3).length) (.w (.take v3 v9 0) (.p ((v5.set (↑k : Int).toNat v3)[(↑k : Int).toNat]? = some v3) (.p ((v5.set (↑k : Int).toNat v3).set (↑k : Int).toNat v1 = v5.set
 (↑k : Int).toNat v1) (.r v10 (.p (0 ≤ (↑k : Int) ∧ (↑k : Int).toNat < v9.length) (.w .sub (.p ((↑k : Int).toNat < v9.length) (.w (.subcall v1 v13 1) (.u [.own true 1, .rd]
 (P_c_markIntS v7.scopes v10) (.p (v9[(↑k : Int).toNat]? = some v1) (.p (some (Cell.list v13) = some (Cell.list v13)) (.p (∀ (x_1 : List Cell), x_1 ∈ List.map intC v7.scopes →
 x_1.length = 1) (.p (OK (P_c_markIntS v7.scopes v10)) (.p (0 ≤ (↑k : Int) ∧ (↑k : Int).toNat < (v9.set (↑k : Int).toNat v2).length) (.w .sub (.p ((↑k : Int).toNat < (v9.set (↑k :
 Int).toNat v2).length) (.w (.subcall v2 v11 5) (.u [.own true 5, .rd] (P_c_markSyntaxS v7 v6) (.p ((v9.set (↑k : Int).toNat v2)[(↑k : Int).toNat]? = some v2) (.p (some (Cell.list
 v11) = some (Cell.list v11)) (.p (∀ (x_1 : List Cell), x_1 ∈ List.map syntaxC v7.items → x_1.length = 5) (.p (OK (P_c_markSyntaxS v7 v6)) (.r ((↑k : Int) + 1) (.g [0] (k + 1) [.s
 (li ((↑k : Int) + 1)), .s (li (n + v8 + 1 + 1 + 1 + (↑(x.items.getD (↑k : Int).toNat default).scopes.length : Int) + (↑(sumBy cY v7.items) : Int))), .o (Ob.arr true 5 ((v9.set (↑k
 : Int).toNat v2).set (↑k : Int).toNat [cI (n + v8), cI (n + v8 + 1), cS (mText v12), Cell.list (List.map intC (seqM mkI cOne v7.scopes v10)), Cell.list (List.map syntaxC (seqM mkY
 cY v7.items v6))]))]))))))))))))))))))))))))))))))))))) (.o 0 [0] [.s (li (n + v8)), .o (Ob.arr true 5 v5)]))) (by
  intro k h; try dsimp only [teasy, nthW, lc_markSyntaxS_sLa] at h ⊢
  have g0 := sumBy_takeLe cY x.items (k + 1)
  with_reducible repeat' (first | apply And.intro | exact zR | exact ih | (intro; skip) | apply c_markText | apply c_markIntS | apply ih)
  all_goals (try simp only [std, stdM, inj] at *)
  all_goals with_reducible repeat' apply And.intro
  all_goals (try (first | with_reducible apply c_markText | with_reducible apply c_markIntS | with_reducible apply ih | (simp only [← List.map_append]; first | with_reducible apply c_markText | with_reducible apply c_markIntS | with_reducible apply ih)))
  all_goals (try (first | exact z | ((first | refine rowGet ?_ | refine getC ?_ rfl); (first | omega | (simp only [std, stdM]; omega) | grind)) | (refine set_row ?_; (simp only [List.length_map, List.length_set, mkTo_len]; omega)) | (refine mkToRow ?_; (first | omega | (simp only [std, stdM]; omega) | grind)) | (refine mkTo_row ?_ rfl; (first | omega | (simp only [std, stdM]; omega) | grind)) | (refine mkTo_step ?_ ?_; (first | omega | (simp only [std, stdM]; omega) | grind); (first | exact mkY_C _ _ | grind [sumBy_step, getD_mem', cY_eq, mkY_C, mkTo_all, snocI, snocS, rowSnoc])) | grind [sumBy_step, getD_mem', cY_eq, mkY_C, mkTo_all, snocI, snocS, rowSnoc])))
theorem c_markSyntaxS_s (x : Syntax) (n : Int) (h0 : 0 ≤ n) (h : n + sumBy cY x.items ≤ 100000000000000) (ih : ∀ z ∈ x.items, ∀ (n : Int) (h0 : 0 ≤ n) (h : n + sumBy cY z.items ≤
 100000000000000), P_c_markSyntaxS z n)  : P_c_markSyntaxS x n := fnOK Tryz.call62 Tryz.func62 (.l (lc_markSyntaxS_sLa x n) (Sc_markSyntaxS_sLa x n h0 h ih) [0] [.s (li 0), .s (li
 n), .o (Ob.arr true 5 (List.map syntaxC x.items))] 0 (.t (.f [] [Ob.arr true 5 (List.map syntaxC (seqM mkY cY x.items n))] (AV.sv (li (n + (↑(sumBy cY x.items) : Int))))) .q)) (by
  dsimp only [teasy, P_c_markSyntaxS, nthW, lc_markSyntaxS_sLa]
  have gl := cY_len x.items
  with_reducible repeat' (first | apply And.intro | exact zR | exact ih | (intro; skip) | apply c_markText | apply c_markIntS)
  all_goals (try simp only [std, stdM, inj] at *)
  all_goals with_reducible repeat' apply And.intro
  all_goals (try (first | with_reducible apply c_markText | with_reducible apply c_markIntS | with_reducible apply ih | (simp only [← List.map_append]; first | with_reducible apply c_markText | with_reducible apply c_markIntS | with_reducible apply ih)))
  all_goals (try (first | exact z | ((first | refine rowGet ?_ | refine getC ?_ rfl); (first | omega | (simp only [std, stdM]; omega) | grind)) | (refine set_row ?_; (simp only [List.length_map, List.length_set, mkTo_len]; omega)) | (refine mkToRow ?_; (first | omega | (simp only [std, stdM]; omega) | grind)) | (refine mkTo_row ?_ rfl; (first | omega | (simp only [std, stdM]; omega) | grind)) | (refine mkTo_step ?_ ?_; (first | omega | (simp only [std, stdM]; omega) | grind); (first | grind [mkTo_all, snocI, snocS, rowSnoc])) | grind [mkTo_all, snocI, snocS, rowSnoc])))
theorem c_markSyntaxS (x : Syntax) : ∀ (n : Int) (h0 : 0 ≤ n) (h : n + sumBy cY x.items ≤ 100000000000000), P_c_markSyntaxS x n := Syntax.ind (P := fun x => ∀ (n : Int) (h0 : 0 ≤ n) (h : n + sumBy cY x.items ≤ 100000000000000), P_c_markSyntaxS x n) (fun x ih n h0 h => c_markSyntaxS_s x n h0 h ih) x
theorem c_markSyntaxSL (L : List Syntax) (n : Int) (h0 : 0 ≤ n) (h : n + sumBy cY L ≤ 100000000000000) : P_c_markSyntaxS { (default : Syntax) with items := L } n := c_markSyntaxS { (default : Syntax) with items := L } n h0 h
abbrev P_c_markBindingS (L : List Binding) (n : Int) : Ct := ⟨28, [.arr true 4 (L.map bindingC)], [.one (.ref 0), li n], [.arr true 4 ((seqM mkB cB L n).map bindingC)], .sv (li (n + sumBy cB L))⟩
def lc_markBindingSLa (L : List Binding) (n : Int) : Lp Nat := .mk 42 1 (fun x => [(0, SV.one (AC.ref 0)), (1, hs x 1), (5, hs x 0)]) (fun x => [ho x 2]) (fun k => [.s (li (↑k :
 Int)), .s (li (n + (↑(sumBy cB (List.take k L)) : Int))), .o (Ob.arr true 4 (List.map bindingC (mkTo mkB cB L n k)))]) (fun k => k ≤ L.length ∧ L.length ≤ 9223372036854775807)
 (fun k => L.length - k) [.mk True (.exit 0) (fun x => [(1, hs x 0)]) (fun x => [ho x 1]) [.s (li (n + (↑(sumBy cB L) : Int))), .o (Ob.arr true 4 (List.map bindingC (seqM mkB cB L
 n)))]]
theorem Sc_markBindingSLa (L : List Binding) (n : Int) (h0 : 0 ≤ n) (h : n + (↑(sumBy cB L) : Int) ≤ 100000000000000) : Lp.Sem Tryz.prog (loopAt Tryz.f28 0) (lc_markBindingSLa L n)
 := lpOK (fun k => let v9 := (List.map bindingC (mkTo mkB cB L n k)); let v8 := (↑(sumBy cB (List.take k L)) : Int); let v7 := (L.getD (↑k : Int).toNat default); let v11 := [cS
 (mText (n + v8)), Cell.list (List.map intC v7.scopes), cI v7.kind, cI v7.number]; let v1 := (v9.set (↑k : Int).toNat v11); let v12 := (List.map intC (seqM mkI cOne v7.scopes (n +
 v8 + 1))); let v10 := (↑(L.getD (↑k : Int).toNat default).scopes.length : Int); let v2 := [cS (mText (n + v8)), Cell.list v12, cI (n + v8 + 1 + v10), cI v7.number]; let v3 := [cS
 (mText (n + v8)), Cell.list v12, cI (n + v8 + 1 + v10), cI (n + v8 + 1 + v10 + 1)]; let v4 := [cS (mText (n + v8)), Cell.list v12, cI v7.kind, cI v7.number]; let v5 := (n + v8 + 1
 + v10 + 1 + 1); let v6 := (P_c_markIntS v7.scopes (n + v8 + 1)); .z bindingC (mkTo mkB cB L n k) (.i ((↑k : Int) < (↑(List.map bindingC (mkTo mkB cB L n k)).length : Int)) (.d
 [.rd] (P_c_markText (n + v8)) (.p (0 ≤ (↑k : Int) ∧ (↑k : Int).toNat < v9.length) (.w (.cells (bindingF v7)) (.p (v9[(↑k : Int).toNat]? = some (bindingF v7)) (.r (n + v8 + 1) (.p
 (0 ≤ (↑k : Int) ∧ (↑k : Int).toNat < v1.length) (.w .sub (.p ((↑k : Int).toNat < v1.length) (.w (.subcall v11 (List.map intC v7.scopes) 1) (.u [.own true 1, .rd] v6 (.p (v1[(↑k :
 Int).toNat]? = some v11) (.p (some (Cell.list (List.map intC v7.scopes)) = some (Cell.list (List.map intC v7.scopes))) (.p (∀ (x : List Cell), x ∈ List.map intC v7.scopes →
 x.length = 1) (.p (OK v6) (.p (0 ≤ (↑k : Int) ∧ (↑k : Int).toNat < (v1.set (↑k : Int).toNat v4).length) (.w (.take v4 (v1.set (↑k : Int).toNat v2) 0) (.p ((v1.set (↑k : Int).toNat
 v4)[(↑k : Int).toNat]? = some v4) (.p ((v1.set (↑k : Int).toNat v4).set (↑k : Int).toNat v2 = v1.set (↑k : Int).toNat v2) (.r (n + v8 + 1 + v10 + 1) (.p (0 ≤ (↑k : Int) ∧ (↑k :
 Int).toNat < (v1.set (↑k : Int).toNat v2).length) (.w (.take v2 (v1.set (↑k : Int).toNat v3) 0) (.p ((v1.set (↑k : Int).toNat v2)[(↑k : Int).toNat]? = some v2) (.p ((v1.set (↑k :
 Int).toNat v2).set (↑k : Int).toNat v3 = v1.set (↑k : Int).toNat v3) (.r v5 (.r ((↑k : Int) + 1) (.g [0] (k + 1) [.s (li ((↑k : Int) + 1)), .s (li v5), .o (Ob.arr true 4 (v1.set
 (↑k : Int).toNat v3))])))))))))))))))))))))))))) (.o 0 [0] [.s (li (n + v8)), .o (Ob.arr true 4 v9)]))) (by
  intro k h; try dsimp only [teasy, nthW, lc_markBindingSLa] at h ⊢
  have g0 := sumBy_takeLe cB L (k + 1)
  with_reducible repeat' (first | apply And.intro | exact zR | (intro; skip) | apply c_markText | apply c_markIntS)
  all_goals (try simp only [std, stdM, inj] at *)
  all_goals with_reducible repeat' apply And.intro
  all_goals (try (first | with_reducible apply c_markText | with_reducible apply c_markIntS | (simp only [← List.map_append]; first | with_reducible apply c_markText | with_reducible apply c_markIntS)))
  all_goals (try (first | exact z | ((first | refine rowGet ?_ | refine getC ?_ rfl); (first | omega | (simp only [std, stdM]; omega) | grind)) | (refine set_row ?_; (simp only [List.length_map, List.length_set, mkTo_len]; omega)) | (refine mkToRow ?_; (first | omega | (simp only [std, stdM]; omega) | grind)) | (refine mkTo_row ?_ rfl; (first | omega | (simp only [std, stdM]; omega) | grind)) | (refine mkTo_step ?_ ?_; (first | omega | (simp only [std, stdM]; omega) | grind); (first | exact mkB_C _ _ | grind [sumBy_step, getD_mem', cB_eq, mkB_C, mkTo_all, snocI, snocS, rowSnoc])) | grind [sumBy_step, getD_mem', cB_eq, mkB_C, mkTo_all, snocI, snocS, rowSnoc])))
theorem c_markBindingS (L : List Binding) (n : Int) (h0 : 0 ≤ n) (h : n + sumBy cB L ≤ 100000000000000)  : P_c_markBindingS L n := fnOK Tryz.call28 Tryz.func28 (.l (lc_markBindingSLa
 L n) (Sc_markBindingSLa L n h0 h) [0] [.s (li 0), .s (li n), .o (Ob.arr true 4 (List.map bindingC L))] 0 (.t (.f [] [Ob.arr true 4 (List.map bindingC (seqM mkB cB L n))] (AV.sv
 (li (n + (↑(sumBy cB L) : Int))))) .q)) (by
  dsimp only [teasy, P_c_markBindingS, nthW, lc_markBindingSLa]
  have gl := cB_len L
  with_reducible repeat' (first | apply And.intro | exact zR | (intro; skip) | apply c_markText | apply c_markIntS)
  all_goals (try simp only [std, stdM, inj] at *)
  all_goals with_reducible repeat' apply And.intro
  all_goals (try (first | with_reducible apply c_markText | with_reducible apply c_markIntS | (simp only [← List.map_append]; first | with_reducible apply c_markText | with_reducible apply c_markIntS)))
  all_goals (try (first | exact z | ((first | refine rowGet ?_ | refine getC ?_ rfl); (first | omega | (simp only [std, stdM]; omega) | grind)) | (refine set_row ?_; (simp only [List.length_map, List.length_set, mkTo_len]; omega)) | (refine mkToRow ?_; (first | omega | (simp only [std, stdM]; omega) | grind)) | (refine mkTo_row ?_ rfl; (first | omega | (simp only [std, stdM]; omega) | grind)) | (refine mkTo_step ?_ ?_; (first | omega | (simp only [std, stdM]; omega) | grind); (first | grind [mkTo_all, snocI, snocS, rowSnoc])) | grind [mkTo_all, snocI, snocS, rowSnoc])))
abbrev P_c_markRulesS (L : List Rules) (n : Int) : Ct := ⟨29, [.arr true 3 (L.map rulesC)], [.one (.ref 0), li n], [.arr true 3 ((seqM mkR cR L n).map rulesC)], .sv (li (n + sumBy cR L))⟩
def lc_markRulesSLa (L : List Rules) (n : Int) : Lp Nat := .mk 34 1 (fun x => [(0, SV.one (AC.ref 0)), (1, hs x 1), (5, hs x 0)]) (fun x => [ho x 2]) (fun k => [.s (li (↑k : Int)),
 .s (li (n + (↑(sumBy cR (List.take k L)) : Int))), .o (Ob.arr true 3 (List.map rulesC (mkTo mkR cR L n k)))]) (fun k => k ≤ L.length ∧ L.length ≤ 9223372036854775807) (fun k =>
 L.length - k) [.mk True (.exit 0) (fun x => [(1, hs x 0)]) (fun x => [ho x 1]) [.s (li (n + (↑(sumBy cR L) : Int))), .o (Ob.arr true 3 (List.map rulesC (seqM mkR cR L n)))]]
theorem Sc_markRulesSLa (L : List Rules) (n : Int) (h0 : 0 ≤ n) (h : n + (↑(sumBy cR L) : Int) ≤ 100000000000000) (h2 : L.length ≤ 2147483647) : Lp.Sem Tryz.prog (loopAt Tryz.f29
 0) (lc_markRulesSLa L n) := lpOK (fun k => let v8 := (List.map rulesC (mkTo mkR cR L n k)); let v10 := (L.getD k default); let v11 := (↑(sumBy cR (List.take k L)) : Int); let v14
 := (List.map syntaxC (seqM mkY cY v10.literals (n + v11))); let v15 := (List.map syntaxC v10.patterns); let v13 := (List.map syntaxC v10.templates); let v6 := [Cell.list v14,
 Cell.list v15, Cell.list v13]; let v12 := (↑(sumBy cY v10.literals) : Int); let v7 := [Cell.list v14, Cell.list (List.map syntaxC (seqM mkY cY v10.patterns (n + v11 + v12))),
 Cell.list v13]; let v1 := ((v8.set (↑k : Int).toNat v6).set (↑k : Int).toNat v7); let v2 := (n + v11 + v12 + (↑(sumBy cY v10.patterns) : Int)); let v3 := (P_c_markSyntaxS
 (Syntax.mk 0 0 default [] v10.patterns) (n + v11 + v12)); let v4 := (P_c_markSyntaxS (Syntax.mk 0 0 default [] v10.literals) (n + v11)); let v5 := (List.map syntaxC v10.literals);
 let v9 := (P_c_markSyntaxS (Syntax.mk 0 0 default [] v10.templates) v2); .z rulesC (mkTo mkR cR L n k) (.i ((↑k : Int) < (↑(List.map rulesC (mkTo mkR cR L n k)).length : Int)) (.p
 (0 ≤ (↑k : Int) ∧ (↑k : Int).toNat < v8.length) (.w .sub (.p ((↑k : Int).toNat < v8.length) (.w (.subcall (rulesF v10) v5 5) (.u [.own true 5, .rd] v4 (.p (v8[(↑k : Int).toNat]? =
 some (rulesF v10)) (.p (some (Cell.list v5) = some (Cell.list v5)) (.p (∀ (x : List Cell), x ∈ List.map syntaxC v10.literals → x.length = 5) (.p (OK v4) (.p (0 ≤ (↑k : Int) ∧ (↑k
 : Int).toNat < (v8.set (↑k : Int).toNat v6).length) (.w .sub (.p ((↑k : Int).toNat < (v8.set (↑k : Int).toNat v6).length) (.w (.subcall v6 v15 5) (.u [.own true 5, .rd] v3 (.p
 ((v8.set (↑k : Int).toNat v6)[(↑k : Int).toNat]? = some v6) (.p (some (Cell.list v15) = some (Cell.list v15)) (.p (∀ (x : List Cell), x ∈ List.map syntaxC v10.patterns → x.length
 = 5) (.p (OK v3) (.p (0 ≤ (↑k : Int) ∧ (↑k : Int).toNat < v1.length) (.w .sub (.p ((↑k : Int).toNat < v1.length) (.w (.subcall v7 v13 5) (.u [.own true 5, .rd] v9 (.p (v1[(↑k :
 Int).toNat]? = some v7) (.p (some (Cell.list v13) = some (Cell.list v13)) (.p (∀ (x : List Cell), x ∈ List.map syntaxC v10.templates → x.length = 5) (.p (OK v9) (.r ((↑k : Int) +
 1) (.g [0] (k + 1) [.s (li ((↑k : Int) + 1)), .s (li (n + v11 + v12 + (↑(sumBy cY v10.patterns) : Int) + (↑(sumBy cY v10.templates) : Int))), .o (Ob.arr true 3 (v1.set (↑k :
 Int).toNat [Cell.list v14, Cell.list (List.map syntaxC (seqM mkY cY v10.patterns (n + v11 + v12))), Cell.list (List.map syntaxC (seqM mkY cY v10.templates
 v2))]))]))))))))))))))))))))))))))))) (.o 0 [0] [.s (li (n + v11)), .o (Ob.arr true 3 v8)]))) (by
  intro k h; try dsimp only [teasy, nthW, lc_markRulesSLa] at h ⊢
  have g0 := sumBy_takeLe cR L (k + 1)
  with_reducible repeat' (first | apply And.intro | exact zR | (intro; skip) | apply c_markSyntaxS | apply c_markSyntaxSL)
  all_goals (try simp only [std, stdM, inj] at *)
  all_goals with_reducible repeat' apply And.intro
  all_goals (try (first | with_reducible apply c_markSyntaxS | with_reducible apply c_markSyntaxSL | (simp only [← List.map_append]; first | with_reducible apply c_markSyntaxS | with_reducible apply c_markSyntaxSL)))
  all_goals (try (first | exact z | ((first | refine rowGet ?_ | refine getC ?_ rfl); (first | omega | (simp only [std, stdM]; omega) | grind)) | (refine set_row ?_; (simp only [List.length_map, List.length_set, mkTo_len]; omega)) | (refine mkToRow ?_; (first | omega | (simp only [std, stdM]; omega) | grind)) | (refine mkTo_row ?_ rfl; (first | omega | (simp only [std, stdM]; omega) | grind)) | (refine mkTo_step ?_ ?_; (first | omega | (simp only [std, stdM]; omega) | grind); (first | exact mkR_C _ _ | grind [sumBy_step, getD_mem', cR_eq, mkR_C, mkTo_all, snocI, snocS, rowSnoc])) | grind [sumBy_step, getD_mem', cR_eq, mkR_C, mkTo_all, snocI, snocS, rowSnoc])))
theorem c_markRulesS (L : List Rules) (n : Int) (h0 : 0 ≤ n) (h : n + sumBy cR L ≤ 100000000000000) (h2 : L.length ≤ 2147483647)  : P_c_markRulesS L n := fnOK Tryz.call29 Tryz.func29
 (.l (lc_markRulesSLa L n) (Sc_markRulesSLa L n h0 h h2) [0] [.s (li 0), .s (li n), .o (Ob.arr true 3 (List.map rulesC L))] 0 (.t (.f [] [Ob.arr true 3 (List.map rulesC (seqM mkR
 cR L n))] (AV.sv (li (n + (↑(sumBy cR L) : Int))))) .q)) (by
  dsimp only [teasy, P_c_markRulesS, nthW, lc_markRulesSLa]
  with_reducible repeat' (first | apply And.intro | exact zR | (intro; skip) | apply c_markSyntaxS | apply c_markSyntaxSL)
  all_goals (try simp only [std, stdM, inj] at *)
  all_goals with_reducible repeat' apply And.intro
  all_goals (try (first | with_reducible apply c_markSyntaxS | with_reducible apply c_markSyntaxSL | (simp only [← List.map_append]; first | with_reducible apply c_markSyntaxS | with_reducible apply c_markSyntaxSL)))
  all_goals (try (first | exact z | ((first | refine rowGet ?_ | refine getC ?_ rfl); (first | omega | (simp only [std, stdM]; omega) | grind)) | (refine set_row ?_; (simp only [List.length_map, List.length_set, mkTo_len]; omega)) | (refine mkToRow ?_; (first | omega | (simp only [std, stdM]; omega) | grind)) | (refine mkTo_row ?_ rfl; (first | omega | (simp only [std, stdM]; omega) | grind)) | (refine mkTo_step ?_ ?_; (first | omega | (simp only [std, stdM]; omega) | grind); (first | grind [mkTo_all, snocI, snocS, rowSnoc])) | grind [mkTo_all, snocI, snocS, rowSnoc])))
abbrev P_c_markExpander (x : Expander) (n : Int) : Ct := ⟨8, [.arr true 4 (x.bindings.map bindingC), .arr true 3 (x.macros.map rulesC)], [.agg [.ref 0, .ref 1, vI x.scope, vI x.vari, vI x.steps], li n], [.arr true 4 ((seqM mkB cB x.bindings (n)).map bindingC), .arr true 3 ((seqM mkR cR x.macros (n + sumBy cB x.bindings)).map rulesC)], .sv (li (n + sumBy cB x.bindings + sumBy cR x.macros))⟩
theorem c_markExpander (x : Expander) (n : Int) (h0 : 0 ≤ n) (h : n + (sumBy cB x.bindings + sumBy cR x.macros : Nat) ≤ 100000000000000) (h21 : x.macros.length ≤ 2147483647)  :
 P_c_markExpander x n := fnOK Tryz.call8 Tryz.func8 (.d [.own true 4, .rd] (P_c_markBindingS x.bindings n) (.d [.own true 3, .rd] (P_c_markRulesS x.macros (n + (↑(sumBy cB
 x.bindings) : Int))) (.f [] [Ob.arr true 4 (List.map bindingC (seqM mkB cB x.bindings n)), Ob.arr true 3 (List.map rulesC (seqM mkR cR x.macros (n + (↑(sumBy cB x.bindings) :
 Int))))] (AV.sv (li (n + (↑(sumBy cB x.bindings) : Int) + (↑(sumBy cR x.macros) : Int))))))) (by
  dsimp only [teasy, P_c_markExpander]
  with_reducible repeat' (first | apply And.intro | exact zR | (intro; skip) | apply c_markBindingS | apply c_markRulesS)
  all_goals (try simp only [std, stdM, inj] at *)
  all_goals with_reducible repeat' apply And.intro
  all_goals (try (first | with_reducible apply c_markBindingS | with_reducible apply c_markRulesS | (simp only [← List.map_append]; first | with_reducible apply c_markBindingS | with_reducible apply c_markRulesS)))
  all_goals (try (first | exact z | ((first | refine rowGet ?_ | refine getC ?_ rfl); (first | omega | (simp only [std, stdM]; omega) | grind)) | (refine set_row ?_; (simp only [List.length_map, List.length_set, mkTo_len]; omega)) | (refine mkToRow ?_; (first | omega | (simp only [std, stdM]; omega) | grind)) | (refine mkTo_row ?_ rfl; (first | omega | (simp only [std, stdM]; omega) | grind)) | (refine mkTo_step ?_ ?_; (first | omega | (simp only [std, stdM]; omega) | grind); (first | grind [snocI, snocS, rowSnoc])) | grind [snocI, snocS, rowSnoc])))
abbrev P_c_markExportS (L : List Export) (n : Int) : Ct := ⟨35, [.arr true 4 (L.map exportC)], [.one (.ref 0), li n], [.arr true 4 ((seqM mkE cE L n).map exportC)], .sv (li (n + sumBy cE L))⟩
def lc_markExportSLa (L : List Export) (n : Int) : Lp Nat := .mk 43 1 (fun x => [(0, SV.one (AC.ref 0)), (1, hs x 1), (5, hs x 0)]) (fun x => [ho x 2]) (fun k => [.s (li (↑k :
 Int)), .s (li (n + (↑(sumBy cE (List.take k L)) : Int))), .o (Ob.arr true 4 (List.map exportC (mkTo mkE cE L n k)))]) (fun k => k ≤ L.length ∧ L.length ≤ 9223372036854775807) (fun
 k => L.length - k) [.mk True (.exit 0) (fun x => [(1, hs x 0)]) (fun x => [ho x 1]) [.s (li (n + (↑(sumBy cE L) : Int))), .o (Ob.arr true 4 (List.map exportC (seqM mkE cE L n)))]]
theorem Sc_markExportSLa (L : List Export) (n : Int) (h0 : 0 ≤ n) (h : n + (↑(sumBy cE L) : Int) ≤ 100000000000000) : Lp.Sem Tryz.prog (loopAt Tryz.f35 0) (lc_markExportSLa L n) :=
 lpOK (fun k => let v1 := (↑(sumBy cE (List.take k L)) : Int); let v2 := (L.getD (↑k : Int).toNat default); let v3 := (List.map exportC (mkTo mkE cE L n k)); let v4 := [cS (mText
 (n + v1)), cS (mText (n + v1 + 1)), cI (n + v1 + 1 + 1), cI v2.number]; let v5 := [cS (mText (n + v1)), cS (mText (n + v1 + 1)), cI v2.kind, cI v2.number]; let v6 := [cS (mText (n
 + v1)), cS (mText (n + v1 + 1)), cI (n + v1 + 1 + 1), cI (n + v1 + 1 + 1 + 1)]; let v7 := [cS (mText (n + v1)), cS v2.text, cI v2.kind, cI v2.number]; .z exportC (mkTo mkE cE L n
 k) (.i ((↑k : Int) < (↑(List.map exportC (mkTo mkE cE L n k)).length : Int)) (.d [.rd] (P_c_markText (n + v1)) (.p (0 ≤ (↑k : Int) ∧ (↑k : Int).toNat < v3.length) (.w (.cells
 (exportF v2)) (.p (v3[(↑k : Int).toNat]? = some (exportF v2)) (.r (n + v1 + 1) (.d [.rd] (P_c_markText (n + v1 + 1)) (.p (0 ≤ (↑k : Int) ∧ (↑k : Int).toNat < (v3.set (↑k :
 Int).toNat v7).length) (.w (.take v7 (v3.set (↑k : Int).toNat v5) 0) (.p ((v3.set (↑k : Int).toNat v7)[(↑k : Int).toNat]? = some v7) (.p ((v3.set (↑k : Int).toNat v7).set (↑k :
 Int).toNat v5 = v3.set (↑k : Int).toNat v5) (.r (n + v1 + 1 + 1) (.p (0 ≤ (↑k : Int) ∧ (↑k : Int).toNat < (v3.set (↑k : Int).toNat v5).length) (.w (.take v5 (v3.set (↑k :
 Int).toNat v4) 0) (.p ((v3.set (↑k : Int).toNat v5)[(↑k : Int).toNat]? = some v5) (.p ((v3.set (↑k : Int).toNat v5).set (↑k : Int).toNat v4 = v3.set (↑k : Int).toNat v4) (.r (n +
 v1 + 1 + 1 + 1) (.p (0 ≤ (↑k : Int) ∧ (↑k : Int).toNat < (v3.set (↑k : Int).toNat v4).length) (.w (.take v4 (v3.set (↑k : Int).toNat v6) 0) (.p ((v3.set (↑k : Int).toNat v4)[(↑k :
 Int).toNat]? = some v4) (.p ((v3.set (↑k : Int).toNat v4).set (↑k : Int).toNat v6 = v3.set (↑k : Int).toNat v6) (.r (n + v1 + 1 + 1 + 1 + 1) (.r ((↑k : Int) + 1) (.g [0] (k + 1)
 [.s (li ((↑k : Int) + 1)), .s (li (n + v1 + 1 + 1 + 1 + 1)), .o (Ob.arr true 4 (v3.set (↑k : Int).toNat v6))]))))))))))))))))))))))) (.o 0 [0] [.s (li (n + v1)), .o (Ob.arr true 4
 v3)]))) (by
  intro k h; try dsimp only [teasy, nthW, lc_markExportSLa] at h ⊢
  have g0 := sumBy_takeLe cE L (k + 1)
  with_reducible repeat' (first | apply And.intro | exact zR | (intro; skip) | apply c_markText)
  all_goals (try simp only [std, stdM, inj] at *)
  all_goals with_reducible repeat' apply And.intro
  all_goals (try (first | with_reducible apply c_markText | (simp only [← List.map_append]; first | with_reducible apply c_markText)))
  all_goals (try (first | exact z | ((first | refine rowGet ?_ | refine getC ?_ rfl); (first | omega | (simp only [std, stdM]; omega) | grind)) | (refine set_row ?_; (simp only [List.length_map, List.length_set, mkTo_len]; omega)) | (refine mkToRow ?_; (first | omega | (simp only [std, stdM]; omega) | grind)) | (refine mkTo_row ?_ rfl; (first | omega | (simp only [std, stdM]; omega) | grind)) | (refine mkTo_step ?_ ?_; (first | omega | (simp only [std, stdM]; omega) | grind); (first | exact mkE_C _ _ | grind [sumBy_step, getD_mem', cE_eq, mkE_C, mkTo_all, snocI, snocS, rowSnoc])) | grind [sumBy_step, getD_mem', cE_eq, mkE_C, mkTo_all, snocI, snocS, rowSnoc])))
theorem c_markExportS (L : List Export) (n : Int) (h0 : 0 ≤ n) (h : n + sumBy cE L ≤ 100000000000000)  : P_c_markExportS L n := fnOK Tryz.call35 Tryz.func35 (.l (lc_markExportSLa L
 n) (Sc_markExportSLa L n h0 h) [0] [.s (li 0), .s (li n), .o (Ob.arr true 4 (List.map exportC L))] 0 (.t (.f [] [Ob.arr true 4 (List.map exportC (seqM mkE cE L n))] (AV.sv (li (n
 + (↑(sumBy cE L) : Int))))) .q)) (by
  dsimp only [teasy, P_c_markExportS, nthW, lc_markExportSLa]
  have gl := cE_len L
  with_reducible repeat' (first | apply And.intro | exact zR | (intro; skip) | apply c_markText)
  all_goals (try simp only [std, stdM, inj] at *)
  all_goals with_reducible repeat' apply And.intro
  all_goals (try (first | with_reducible apply c_markText | (simp only [← List.map_append]; first | with_reducible apply c_markText)))
  all_goals (try (first | exact z | ((first | refine rowGet ?_ | refine getC ?_ rfl); (first | omega | (simp only [std, stdM]; omega) | grind)) | (refine set_row ?_; (simp only [List.length_map, List.length_set, mkTo_len]; omega)) | (refine mkToRow ?_; (first | omega | (simp only [std, stdM]; omega) | grind)) | (refine mkTo_row ?_ rfl; (first | omega | (simp only [std, stdM]; omega) | grind)) | (refine mkTo_step ?_ ?_; (first | omega | (simp only [std, stdM]; omega) | grind); (first | grind [mkTo_all, snocI, snocS, rowSnoc])) | grind [mkTo_all, snocI, snocS, rowSnoc])))
abbrev P_c_markUnitS (L : List Unit) (n : Int) : Ct := ⟨34, [.arr true 10 (L.map unitC)], [.one (.ref 0), li n], [.arr true 10 ((seqM mkU cU L n).map unitC)], .sv (li (n + sumBy cU L))⟩
def lc_markUnitSLa (L : List Unit) (n : Int) : Lp Nat := .mk 97 1 (fun x => [(0, SV.one (AC.ref 0)), (1, hs x 1), (5, hs x 0)]) (fun x => [ho x 2]) (fun k => [.s (li (↑k : Int)),
 .s (li (n + (↑(sumBy cU (List.take k L)) : Int))), .o (Ob.arr true 10 (List.map unitC (mkTo mkU cU L n k)))]) (fun k => k ≤ L.length ∧ L.length ≤ 9223372036854775807) (fun k =>
 L.length - k) [.mk True (.exit 0) (fun x => [(1, hs x 0)]) (fun x => [ho x 1]) [.s (li (n + (↑(sumBy cU L) : Int))), .o (Ob.arr true 10 (List.map unitC (seqM mkU cU L n)))]]
theorem Sc_markUnitSLa (L : List Unit) (n : Int) (h0 : 0 ≤ n) (h : n + (↑(sumBy cU L) : Int) ≤ 100000000000000) : Lp.Sem Tryz.prog (loopAt Tryz.f34 0) (lc_markUnitSLa L n) := lpOK
 (fun k => let v9 := (List.map unitC (mkTo mkU cU L n k)); let v8 := (↑(sumBy cU (List.take k L)) : Int); let v30 := (mText (n + v8)); let v7 := (L.getD (↑k : Int).toNat default);
 let v28 := (cS v30 :: Cell.list (List.map intC v7.globals) :: coreF v7.body); let v13 := (v9.set (↑k : Int).toNat v28); let v14 := (List.map intC (seqM mkI cOne v7.globals (n + v8
 + 1))); let v11 := (↑(L.getD (↑k : Int).toNat default).globals.length : Int); let v27 := (n + v8 + 1 + v11); let v24 := (n + v8 + 1 + v11 + 1); let v31 := (List.map intC
 v7.body.params); let v15 := (List.map datumC v7.body.datum.items); let v16 := (List.map coreC v7.body.kids); let v18 := [cS v30, Cell.list v14, cI v27, cI v24, Cell.list v31, cI
 v7.body.datum.kind, cI v7.body.datum.number, cS v7.body.datum.text, Cell.list v15, Cell.list v16]; let v1 := (v13.set (↑k : Int).toNat v18); let v29 := (n + v8 + 1 + v11 + 1 + 1);
 let v23 := (List.map intC (seqM mkI cOne v7.body.params v29)); let v12 := (↑(L.getD (↑k : Int).toNat default).body.params.length : Int); let v25 := (n + v8 + 1 + v11 + 1 + 1 +
 v12); let v22 := (n + v8 + 1 + v11 + 1 + 1 + v12 + 1); let v20 := (n + v8 + 1 + v11 + 1 + 1 + v12 + 1 + 1); let v2 := [cS v30, Cell.list v14, cI v27, cI v24, Cell.list v23, cI
 v25, cI v22, cS (mText v20), Cell.list v15, Cell.list v16]; let v3 := [cS v30, Cell.list v14, cI v27, cI v24, Cell.list v23, cI v25, cI v22, cS v7.body.datum.text, Cell.list v15,
 Cell.list v16]; let v19 := (n + v8 + 1 + v11 + 1 + 1 + v12 + 1 + 1 + 1); let v4 := [cS v30, Cell.list v14, cI v27, cI v24, Cell.list v23, cI v25, cI v22, cS (mText v20), Cell.list
 (List.map datumC (seqM mkD cD v7.body.datum.items v19)), Cell.list v16]; let v5 := [cS v30, Cell.list v14, cI v27, cI v24, Cell.list v23, cI v25, cI v7.body.datum.number, cS
 v7.body.datum.text, Cell.list v15, Cell.list v16]; let v6 := [cS v30, Cell.list v14, cI v27, cI v7.body.number, Cell.list v31, cI v7.body.datum.kind, cI v7.body.datum.number, cS
 v7.body.datum.text, Cell.list v15, Cell.list v16]; let v10 := (v1.set (↑k : Int).toNat v2); let v17 := [cS v30, Cell.list v14, cI v27, cI v24, Cell.list v23, cI
 v7.body.datum.kind, cI v7.body.datum.number, cS v7.body.datum.text, Cell.list v15, Cell.list v16]; let v21 := (n + v8 + 1 + v11 + 1 + 1 + v12 + 1 + 1 + 1 + (↑(sumBy cD
 v7.body.datum.items) : Int)); let v26 := (cS v30 :: Cell.list v14 :: coreF v7.body); .z unitC (mkTo mkU cU L n k) (.i ((↑k : Int) < (↑(List.map unitC (mkTo mkU cU L n k)).length :
 Int)) (.d [.rd] (P_c_markText (n + v8)) (.p (0 ≤ (↑k : Int) ∧ (↑k : Int).toNat < v9.length) (.w (.cells (unitF v7)) (.p (v9[(↑k : Int).toNat]? = some (unitF v7)) (.r (n + v8 + 1)
 (.p (0 ≤ (↑k : Int) ∧ (↑k : Int).toNat < v13.length) (.w .sub (.p ((↑k : Int).toNat < v13.length) (.w (.subcall v28 (List.map intC v7.globals) 1) (.u [.own true 1, .rd]
 (P_c_markIntS v7.globals (n + v8 + 1)) (.p (v13[(↑k : Int).toNat]? = some v28) (.p (some (Cell.list (List.map intC v7.globals)) = some (Cell.list (List.map intC v7.globals))) (.p
 (∀ (x : List Cell), x ∈ List.map intC v7.globals → x.length = 1) (.p (OK (P_c_markIntS v7.globals (n + v8 + 1))) (.p (0 ≤ (↑k : Int) ∧ (↑k : Int).toNat < (v13.set (↑k : Int).toNat
 v26).length) (.w (.take v26 (v13.set (↑k : Int).toNat v6) 0) (.p ((v13.set (↑k : Int).toNat v26)[(↑k : Int).toNat]? = some v26) (.p ((v13.set (↑k : Int).toNat v26).set (↑k :
 Int).toNat v6 = v13.set (↑k : Int).toNat v6) (.r v24 (.p (0 ≤ (↑k : Int) ∧ (↑k : Int).toNat < (v13.set (↑k : Int).toNat v6).length) (.w (.take v6 v1 0) (.p ((v13.set (↑k :
 Int).toNat v6)[(↑k : Int).toNat]? = some v6) (.p ((v13.set (↑k : Int).toNat v6).set (↑k : Int).toNat v18 = v13.set (↑k : Int).toNat v18) (.r v29 (.p (0 ≤ (↑k : Int) ∧ (↑k :
 Int).toNat < v1.length) (.w .sub (.p ((↑k : Int).toNat < v1.length) (.w (.subcall v18 v31 1) (.u [.own true 1, .rd] (P_c_markIntS v7.body.params v29) (.p (v1[(↑k : Int).toNat]? =
 some v18) (.p (some (Cell.list v31) = some (Cell.list v31)) (.p (∀ (x : List Cell), x ∈ List.map intC v7.body.params → x.length = 1) (.p (OK (P_c_markIntS v7.body.params v29)) (.p
 (0 ≤ (↑k : Int) ∧ (↑k : Int).toNat < (v1.set (↑k : Int).toNat v17).length) (.w (.take v17 (v1.set (↑k : Int).toNat v5) 0) (.p ((v1.set (↑k : Int).toNat v17)[(↑k : Int).toNat]? =
 some v17) (.p ((v1.set (↑k : Int).toNat v17).set (↑k : Int).toNat v5 = v1.set (↑k : Int).toNat v5) (.r v22 (.p (0 ≤ (↑k : Int) ∧ (↑k : Int).toNat < (v1.set (↑k : Int).toNat
 v5).length) (.w (.take v5 (v1.set (↑k : Int).toNat v3) 0) (.p ((v1.set (↑k : Int).toNat v5)[(↑k : Int).toNat]? = some v5) (.p ((v1.set (↑k : Int).toNat v5).set (↑k : Int).toNat v3
 = v1.set (↑k : Int).toNat v3) (.r v20 (.d [.rd] (P_c_markText v20) (.p (0 ≤ (↑k : Int) ∧ (↑k : Int).toNat < (v1.set (↑k : Int).toNat v3).length) (.w (.take v3 v10 0) (.p ((v1.set
 (↑k : Int).toNat v3)[(↑k : Int).toNat]? = some v3) (.p ((v1.set (↑k : Int).toNat v3).set (↑k : Int).toNat v2 = v1.set (↑k : Int).toNat v2) (.r v19 (.p (0 ≤ (↑k : Int) ∧ (↑k :
 Int).toNat < v10.length) (.w .sub (.p ((↑k : Int).toNat < v10.length) (.w (.subcall v2 v15 4) (.u [.own true 4, .rd] (P_c_markDatumS v7.body.datum v19) (.p (v10[(↑k : Int).toNat]?
 = some v2) (.p (some (Cell.list v15) = some (Cell.list v15)) (.p (∀ (x : List Cell), x ∈ List.map datumC v7.body.datum.items → x.length = 4) (.p (OK (P_c_markDatumS v7.body.datum
 v19)) (.p (0 ≤ (↑k : Int) ∧ (↑k : Int).toNat < (v10.set (↑k : Int).toNat v4).length) (.w .sub (.p ((↑k : Int).toNat < (v10.set (↑k : Int).toNat v4).length) (.w (.subcall v4 v16 8)
 (.u [.own true 8, .rd] (P_c_markCoreS v7.body v21) (.p ((v10.set (↑k : Int).toNat v4)[(↑k : Int).toNat]? = some v4) (.p (some (Cell.list v16) = some (Cell.list v16)) (.p (∀ (x :
 List Cell), x ∈ List.map coreC v7.body.kids → x.length = 8) (.p (OK (P_c_markCoreS v7.body v21)) (.r ((↑k : Int) + 1) (.g [0] (k + 1) [.s (li ((↑k : Int) + 1)), .s (li (n + v8 + 1
 + v11 + 1 + 1 + v12 + 1 + 1 + 1 + (↑(sumBy cD v7.body.datum.items) : Int) + (↑(sumBy cC v7.body.kids) : Int))), .o (Ob.arr true 10 ((v10.set (↑k : Int).toNat v4).set (↑k :
 Int).toNat [cS v30, Cell.list v14, cI v27, cI v24, Cell.list v23, cI v25, cI v22, cS (mText v20), Cell.list (List.map datumC (seqM mkD cD v7.body.datum.items v19)), Cell.list
 (List.map coreC (seqM mkC cC v7.body.kids v21))]))]))))))))))))))))))))))))))))))))))))))))))))))))))))))))))))))))))))) (.o 0 [0] [.s (li (n + v8)), .o (Ob.arr true 10 v9)])))
 (by
  intro k h; try dsimp only [teasy, nthW, lc_markUnitSLa] at h ⊢
  have g0 := sumBy_takeLe cU L (k + 1)
  with_reducible repeat' (first | apply And.intro | exact zR | (intro; skip) | apply c_markText | apply c_markIntS | apply c_markDatumS | apply c_markDatumSL | apply c_markCoreS | apply c_markCoreSL)
  all_goals (try simp only [std, stdM, inj] at *)
  all_goals with_reducible repeat' apply And.intro
  all_goals (try (first | with_reducible apply c_markText | with_reducible apply c_markIntS | with_reducible apply c_markDatumS | with_reducible apply c_markDatumSL | with_reducible apply c_markCoreS | with_reducible apply c_markCoreSL | (simp only [← List.map_append]; first | with_reducible apply c_markText | with_reducible apply c_markIntS | with_reducible apply c_markDatumS | with_reducible apply c_markDatumSL | with_reducible apply c_markCoreS | with_reducible apply c_markCoreSL)))
  all_goals (try (first | exact z | ((first | refine rowGet ?_ | refine getC ?_ rfl); (first | omega | (simp only [std, stdM]; omega) | grind)) | (refine set_row ?_; (simp only [List.length_map, List.length_set, mkTo_len]; omega)) | (refine mkToRow ?_; (first | omega | (simp only [std, stdM]; omega) | grind)) | (refine mkTo_row ?_ rfl; (first | omega | (simp only [std, stdM]; omega) | grind)) | (refine mkTo_step ?_ ?_; (first | omega | (simp only [std, stdM]; omega) | grind); (first | exact mkU_C _ _ | grind [sumBy_step, getD_mem', cU_eq, mkU_C, mkTo_all, snocI, snocS, rowSnoc])) | grind [sumBy_step, getD_mem', cU_eq, mkU_C, mkTo_all, snocI, snocS, rowSnoc])))
theorem c_markUnitS (L : List Unit) (n : Int) (h0 : 0 ≤ n) (h : n + sumBy cU L ≤ 100000000000000)  : P_c_markUnitS L n := fnOK Tryz.call34 Tryz.func34 (.l (lc_markUnitSLa L n)
 (Sc_markUnitSLa L n h0 h) [0] [.s (li 0), .s (li n), .o (Ob.arr true 10 (List.map unitC L))] 0 (.t (.f [] [Ob.arr true 10 (List.map unitC (seqM mkU cU L n))] (AV.sv (li (n +
 (↑(sumBy cU L) : Int))))) .q)) (by
  dsimp only [teasy, P_c_markUnitS, nthW, lc_markUnitSLa]
  have gl := cU_len L
  with_reducible repeat' (first | apply And.intro | exact zR | (intro; skip) | apply c_markText | apply c_markIntS | apply c_markDatumS | apply c_markDatumSL | apply c_markCoreS | apply c_markCoreSL)
  all_goals (try simp only [std, stdM, inj] at *)
  all_goals with_reducible repeat' apply And.intro
  all_goals (try (first | with_reducible apply c_markText | with_reducible apply c_markIntS | with_reducible apply c_markDatumS | with_reducible apply c_markDatumSL | with_reducible apply c_markCoreS | with_reducible apply c_markCoreSL | (simp only [← List.map_append]; first | with_reducible apply c_markText | with_reducible apply c_markIntS | with_reducible apply c_markDatumS | with_reducible apply c_markDatumSL | with_reducible apply c_markCoreS | with_reducible apply c_markCoreSL)))
  all_goals (try (first | exact z | ((first | refine rowGet ?_ | refine getC ?_ rfl); (first | omega | (simp only [std, stdM]; omega) | grind)) | (refine set_row ?_; (simp only [List.length_map, List.length_set, mkTo_len]; omega)) | (refine mkToRow ?_; (first | omega | (simp only [std, stdM]; omega) | grind)) | (refine mkTo_row ?_ rfl; (first | omega | (simp only [std, stdM]; omega) | grind)) | (refine mkTo_step ?_ ?_; (first | omega | (simp only [std, stdM]; omega) | grind); (first | grind [mkTo_all, snocI, snocS, rowSnoc])) | grind [mkTo_all, snocI, snocS, rowSnoc])))
abbrev P_c_markWorld (x : World) (n : Int) : Ct := ⟨13, [.arr true 4 (x.expander.bindings.map bindingC), .arr true 3 (x.expander.macros.map rulesC), .arr true 10 (x.units.map unitC), .arr true 4 (x.exports.map exportC)], [.agg [.ref 0, .ref 1, vI x.expander.scope, vI x.expander.vari, vI x.expander.steps, .ref 2, .ref 3], li n], [.arr true 4 ((seqM mkB cB x.expander.bindings (n)).map bindingC), .arr true 3 ((seqM mkR cR x.expander.macros (n + sumBy cB x.expander.bindings)).map rulesC), .arr true 10 ((seqM mkU cU x.units (n + sumBy cB x.expander.bindings + sumBy cR x.expander.macros)).map unitC), .arr true 4 ((seqM mkE cE x.exports (n + sumBy cB x.expander.bindings + sumBy cR x.expander.macros + sumBy cU x.units)).map exportC)], .sv (li (n + sumBy cB x.expander.bindings + sumBy cR x.expander.macros + sumBy cU x.units + sumBy cE x.exports))⟩
theorem c_markWorld (x : World) (n : Int) (h0 : 0 ≤ n) (h : n + (sumBy cB x.expander.bindings + sumBy cR x.expander.macros + sumBy cU x.units + sumBy cE x.exports : Nat) ≤
 100000000000000) (h21 : x.expander.macros.length ≤ 2147483647)  : P_c_markWorld x n := fnOK Tryz.call13 Tryz.func13 (.d [.agg [some (true, 4), some (true, 3), none, none, none],
 .rd] (P_c_markExpander x.expander n) (.d [.own true 10, .rd] (P_c_markUnitS x.units (n + (↑(sumBy cB x.expander.bindings) : Int) + (↑(sumBy cR x.expander.macros) : Int))) (.d
 [.own true 4, .rd] (P_c_markExportS x.exports (n + (↑(sumBy cB x.expander.bindings) : Int) + (↑(sumBy cR x.expander.macros) : Int) + (↑(sumBy cU x.units) : Int))) (.f [] [Ob.arr
 true 4 (List.map bindingC (seqM mkB cB x.expander.bindings n)), Ob.arr true 3 (List.map rulesC (seqM mkR cR x.expander.macros (n + (↑(sumBy cB x.expander.bindings) : Int)))),
 Ob.arr true 10 (List.map unitC (seqM mkU cU x.units (n + (↑(sumBy cB x.expander.bindings) : Int) + (↑(sumBy cR x.expander.macros) : Int)))), Ob.arr true 4 (List.map exportC (seqM
 mkE cE x.exports (n + (↑(sumBy cB x.expander.bindings) : Int) + (↑(sumBy cR x.expander.macros) : Int) + (↑(sumBy cU x.units) : Int))))] (AV.sv (li (n + (↑(sumBy cB
 x.expander.bindings) : Int) + (↑(sumBy cR x.expander.macros) : Int) + (↑(sumBy cU x.units) : Int) + (↑(sumBy cE x.exports) : Int)))))))) (by
  dsimp only [teasy, P_c_markWorld]
  with_reducible repeat' (first | apply And.intro | exact zR | (intro; skip) | apply c_markExpander | apply c_markUnitS | apply c_markExportS)
  all_goals (try simp only [std, stdM, inj] at *)
  all_goals with_reducible repeat' apply And.intro
  all_goals (try (first | with_reducible apply c_markExpander | with_reducible apply c_markUnitS | with_reducible apply c_markExportS | (simp only [← List.map_append]; first | with_reducible apply c_markExpander | with_reducible apply c_markUnitS | with_reducible apply c_markExportS)))
  all_goals (try (first | exact z | ((first | refine rowGet ?_ | refine getC ?_ rfl); (first | omega | (simp only [std, stdM]; omega) | grind)) | (refine set_row ?_; (simp only [List.length_map, List.length_set, mkTo_len]; omega)) | (refine mkToRow ?_; (first | omega | (simp only [std, stdM]; omega) | grind)) | (refine mkTo_row ?_ rfl; (first | omega | (simp only [std, stdM]; omega) | grind)) | (refine mkTo_step ?_ ?_; (first | omega | (simp only [std, stdM]; omega) | grind); (first | grind [snocI, snocS, rowSnoc])) | grind [snocI, snocS, rowSnoc])))
end Go.Proofs.YtjgbkigdnjalkaaGreatDoor
end
