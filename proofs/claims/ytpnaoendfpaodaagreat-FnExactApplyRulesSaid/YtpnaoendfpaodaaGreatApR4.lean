/- The program's ApplyRules returns what the reference's returns, for all arguments. No condition. -/
import Derived.Test.YtpnaoendfpaodaaGreatApR3
section
namespace Go.Proofs.YtpnaoendfpaodaaGreat
open Go Go.Proofs.YtpnaoendfpaodaaGreat.Ab
set_option linter.unusedVariables false
set_option linter.unusedSimpArgs false
set_option maxHeartbeats 4000000
abbrev P_c_sApp (B : List Binding) (r : Rules) (f : Syntax) : Ct := ⟨114, [], [ll (B.map bindingC), rulesA r, syntaxA f], syntaxO (apY B r f), .tup [syntaxR (apY B r f) 0, lb (apB B r f)]⟩
def lc_sAppLa (B : List Binding) (r : Rules) (f : Syntax) : Lp Nat := .mk 54 0 (fun x => [(0, ll (List.map bindingC B)), (4, SV.one (AC.ptr 0 0)), (5, SV.one (AC.ptr 1 0)), (6,
 SV.one (AC.ptr 2 0)), (23, ll (List.map syntaxC r.patterns)), (24, li (↑(List.map syntaxC r.patterns).length : Int)), (25, hs x 0)]) (fun x => [Ob.box (vals (rulesF r)), Ob.box
 (vals (syntaxF f)), Ob.box [vI 0, vI 0, vS (ByteArray.mk #[]), AC.val (Cell.lit (Value.slice none 0 0)), AC.val (Cell.lit (Value.slice none 0 0))]]) (fun k => [.s (li (↑k :
 Int))]) (fun k => k ≤ r.patterns.length ∧ r.patterns.length ≤ 9223372036854775807 ∧ apZ B r f k = true ∧ f.kind = 0 ∧ 0 < f.items.length) (fun k => r.patterns.length - k) [.mk
 (apZ B r f r.patterns.length = true) (.exit 0) (fun x => [(6, SV.one (AC.ptr 0 0))]) (fun x => [Ob.box [vI 0, vI 0, vS (ByteArray.mk #[]), AC.val (Cell.lit (Value.slice none 0
 0)), AC.val (Cell.lit (Value.slice none 0 0))]]) [], .mk (apZ B r f r.patterns.length = false) .ret (fun x => [(6, SV.one (AC.ptr 0 0)), (7, hs x 5)]) (fun x => [Ob.box [ha x 0,
 ha x 1, ha x 2, AC.ref 1, AC.ref 2], ho x 3, ho x 4]) [.a (vI (apY B r f).kind), .a (vI (apY B r f).number), .a (vS (apY B r f).text), .o (Ob.arr true 1 (List.map intC (apY B r
 f).scopes)), .o (Ob.arr true 5 (List.map syntaxC (apY B r f).items)), .s (lb (apB B r f))]]
theorem Sc_sAppLa (B : List Binding) (r : Rules) (f : Syntax) (h : B.length ≤ 1048577 ∧ sumBy wB B ≤ 1048577 ∧ wR r ≤ 1048576 ∧ wY f ≤ 1000000000) (hr : isRul r = true) : Lp.Sem
 Tryz.prog (loopAt Tryz.f114 0) (lc_sAppLa B r f) := lpOK (fun k => .i ((↑k : Int) < (↑(List.map syntaxC r.patterns).length : Int)) (.x (↑k : Int) (List.map syntaxC r.patterns)
 (syntaxF (r.patterns.getD k default)) (.w (.draw [(8, [20])]) (.d [.rd] (P_c_sTail (r.patterns.getD k default)) (.d [.rd] (P_c_sTail f) (.w (.bool false) (.d [.rd, .rd, .rd, .rd,
 .own true 12] (P_c_sMat B r.literals (Syntax.mk 0 0 (mkS []) [] (List.drop 1 (r.patterns.getD k default).items)) (Syntax.mk 0 0 (mkS []) [] (List.drop 1 f.items)) []) (.b (gS B
 r.literals (Syntax.mk 0 0 (mkS []) [] (List.drop 1 (r.patterns.getD k default).items)) (Syntax.mk 0 0 (mkS []) [] (List.drop 1 f.items))).isSome (.x (↑k : Int) (List.map syntaxC
 r.templates) (syntaxF (r.templates.getD k default)) (.d [.rd, .rd] (P_c_sIns (r.templates.getD k default) (smO (Syntax.mk 0 0 (mkS []) [] (List.drop 1 (r.patterns.getD k
 default).items)) [] (gS B r.literals (Syntax.mk 0 0 (mkS []) [] (List.drop 1 (r.patterns.getD k default).items)) (Syntax.mk 0 0 (mkS []) [] (List.drop 1 f.items))))) (.o 1 [2, 23,
 24] [.a (vI (insY (r.templates.getD k default) (smO (Syntax.mk 0 0 (mkS []) [] (List.drop 1 (r.patterns.getD k default).items)) [] (gS B r.literals (Syntax.mk 0 0 (mkS []) []
 (List.drop 1 (r.patterns.getD k default).items)) (Syntax.mk 0 0 (mkS []) [] (List.drop 1 f.items))))).kind), .a (vI (insY (r.templates.getD k default) (smO (Syntax.mk 0 0 (mkS [])
 [] (List.drop 1 (r.patterns.getD k default).items)) [] (gS B r.literals (Syntax.mk 0 0 (mkS []) [] (List.drop 1 (r.patterns.getD k default).items)) (Syntax.mk 0 0 (mkS []) []
 (List.drop 1 f.items))))).number), .a (vS (insY (r.templates.getD k default) (smO (Syntax.mk 0 0 (mkS []) [] (List.drop 1 (r.patterns.getD k default).items)) [] (gS B r.literals
 (Syntax.mk 0 0 (mkS []) [] (List.drop 1 (r.patterns.getD k default).items)) (Syntax.mk 0 0 (mkS []) [] (List.drop 1 f.items))))).text), .o (Ob.arr true 1 (List.map intC (insY
 (r.templates.getD k default) (smO (Syntax.mk 0 0 (mkS []) [] (List.drop 1 (r.patterns.getD k default).items)) [] (gS B r.literals (Syntax.mk 0 0 (mkS []) [] (List.drop 1
 (r.patterns.getD k default).items)) (Syntax.mk 0 0 (mkS []) [] (List.drop 1 f.items))))).scopes)), .o (Ob.arr true 5 (List.map syntaxC (insY (r.templates.getD k default) (smO
 (Syntax.mk 0 0 (mkS []) [] (List.drop 1 (r.patterns.getD k default).items)) [] (gS B r.literals (Syntax.mk 0 0 (mkS []) [] (List.drop 1 (r.patterns.getD k default).items))
 (Syntax.mk 0 0 (mkS []) [] (List.drop 1 f.items))))).items)), .s (lb (insB (r.templates.getD k default) (smO (Syntax.mk 0 0 (mkS []) [] (List.drop 1 (r.patterns.getD k
 default).items)) [] (gS B r.literals (Syntax.mk 0 0 (mkS []) [] (List.drop 1 (r.patterns.getD k default).items)) (Syntax.mk 0 0 (mkS []) [] (List.drop 1 f.items))))))]))) (.r ((↑k
 : Int) + 1) (.g [0, 1, 2] (k + 1) [.s (li ((↑k : Int) + 1))]))))))))) (.o 0 [2] [])) (by
  intro k h; try dsimp only [teasy, nthW, lc_sAppLa] at h ⊢
  have g1 := @apZ_step B r f k
  have g0 := @apZ_no B r f k
  have g2 := @ap_at B r f k
  have g3 := @isRul_at r k hr
  have g4 := @apC_ok B r f k 1000000000 hr
  have g5 := wR_eq r
  have g6 := @sumBy_mem _ wY r.patterns (r.patterns.getD k default)
  have g7 := @sumBy_mem _ wY r.templates (r.templates.getD k default)
  have g8 := tlY_w (r.patterns.getD k default)
  have g9 := tlY_w f
  with_reducible repeat' (first | apply And.intro | exact zR | (intro; skip) | apply c_sTail | apply c_sMat | apply c_sIns)
  all_goals (try simp only [std, inj] at *)
  all_goals with_reducible repeat' apply And.intro
  all_goals (try (first | with_reducible apply c_sTail | with_reducible apply c_sMat | with_reducible apply c_sIns | (simp only [← List.map_append]; first | with_reducible apply c_sTail | with_reducible apply c_sMat | with_reducible apply c_sIns)))
  all_goals (try (first | exact zw | grind [tlY, getD_mem', apK, apC, smO_nil, snocI, snocS, rowSnoc])))
theorem c_sApp (B : List Binding) (r : Rules) (f : Syntax) (h : B.length ≤ 1048577 ∧ sumBy wB B ≤ 1048577 ∧ wR r ≤ 1048576 ∧ wY f ≤ 1000000000) (hr : isRul r = true)  : P_c_sApp B
 r f := fnOK Tryz.call114 Tryz.func114 (.i (f.kind ≠ 0) (.y true (.w (.ghost (.nilbox 2 3 true 1)) (.w (.ghost (.nilbox 2 4 true 5)) (.f [3, 4] [Ob.arr true 1 [], Ob.arr true 5 []]
 (AV.tup [SV.agg [vI 0, vI 0, vS (ByteArray.mk #[]), AC.ref 0, AC.ref 1], lb false]))))) (.z syntaxC f.items (.i ((↑(List.map syntaxC f.items).length : Int) = 0) (.w (.ghost
 (.nilbox 2 3 true 1)) (.w (.ghost (.nilbox 2 4 true 5)) (.f [3, 4] [Ob.arr true 1 [], Ob.arr true 5 []] (AV.tup [SV.agg [vI 0, vI 0, vS (ByteArray.mk #[]), AC.ref 0, AC.ref 1], lb
 false])))) (.z syntaxC r.patterns (.l (lc_sAppLa B r f) (Sc_sAppLa B r f h hr) [0, 1, 2] [.s (li 0)] 0 (.t (.w (.ghost (.nilbox 0 3 true 1)) (.w (.ghost (.nilbox 0 4 true 5)) (.f
 [1, 2] [Ob.arr true 1 [], Ob.arr true 5 []] (AV.tup [SV.agg [vI 0, vI 0, vS (ByteArray.mk #[]), AC.ref 0, AC.ref 1], lb false])))) (.t (.f [1, 2] [Ob.arr true 1 (List.map intC
 (apY B r f).scopes), Ob.arr true 5 (List.map syntaxC (apY B r f).items)] (AV.tup [SV.agg [vI (apY B r f).kind, vI (apY B r f).number, vS (apY B r f).text, AC.ref 0, AC.ref 1], lb
 (apB B r f)])) .q))))))) (by
  dsimp only [teasy, P_c_sApp, nthW, lc_sAppLa]
  have g1 := @ap_kind B r f
  have g2 := @ap_empty B r f
  have g3 := @ap_none B r f
  have gz : zY.kind = 0 ∧ zY.number = 0 ∧ zY.text = mkS [] ∧ zY.scopes = [] ∧ zY.items = [] := ⟨rfl, rfl, rfl, rfl, rfl⟩
  with_reducible repeat' (first | apply And.intro | exact zR | (intro; skip) | apply c_sTail | apply c_sMat | apply c_sIns)
  all_goals (try simp only [std, inj] at *)
  all_goals with_reducible repeat' apply And.intro
  all_goals (try (first | with_reducible apply c_sTail | with_reducible apply c_sMat | with_reducible apply c_sIns | (simp only [← List.map_append]; first | with_reducible apply c_sTail | with_reducible apply c_sMat | with_reducible apply c_sIns)))
  all_goals (try (first | exact zw | grind [apZ_zero, snocI, snocS, rowSnoc])))
abbrev P_c_sAppR (B : List Binding) (r : Rules) (f : Syntax) : Ct := ⟨48, [], [ll (B.map bindingC), rulesA r, syntaxA f], syntaxO (aprY B r f), .tup [syntaxR (aprY B r f) 0, lb (aprB B r f)]⟩
theorem c_sAppR (B : List Binding) (r : Rules) (f : Syntax) (h : B.length ≤ 1048577 ∧ sumBy wB B ≤ 1048577 ∧ wR r ≤ 1048576 ∧ wY f ≤ 1000000000)  : P_c_sAppR B r f := fnOK
 Tryz.call48 Tryz.func48 (.c [.rd] (c_sAre B) (.b (!areB B) (.y true (.y true (.w (.ghost (.nilbox 2 3 true 1)) (.w (.ghost (.nilbox 2 4 true 5)) (.f [3, 4] [Ob.arr true 1 [], Ob.arr
 true 5 []] (AV.tup [SV.agg [vI 0, vI 0, vS (ByteArray.mk #[]), AC.ref 0, AC.ref 1], lb false])))))) (.d [.rd] (P_c_sIsRules r) (.b (!isRul r) (.y true (.w (.ghost (.nilbox 2 3
 true 1)) (.w (.ghost (.nilbox 2 4 true 5)) (.f [3, 4] [Ob.arr true 1 [], Ob.arr true 5 []] (AV.tup [SV.agg [vI 0, vI 0, vS (ByteArray.mk #[]), AC.ref 0, AC.ref 1], lb false])))))
 (.c [.rd] (c_sIsSyntax f) (.b (!isSyn f) (.w (.ghost (.nilbox 2 3 true 1)) (.w (.ghost (.nilbox 2 4 true 5)) (.f [3, 4] [Ob.arr true 1 [], Ob.arr true 5 []] (AV.tup [SV.agg [vI 0,
 vI 0, vS (ByteArray.mk #[]), AC.ref 0, AC.ref 1], lb false])))) (.d [.rd, .rd, .rd] (P_c_sApp B r f) (.f [3, 4] [Ob.arr true 1 (List.map intC (apY B r f).scopes), Ob.arr true 5
 (List.map syntaxC (apY B r f).items)] (AV.tup [SV.agg [vI (apY B r f).kind, vI (apY B r f).number, vS (apY B r f).text, AC.ref 0, AC.ref 1], lb (apB B r f)]))))))))) (by
  dsimp only [teasy, P_c_sAppR]
  have gz : zY.kind = 0 ∧ zY.number = 0 ∧ zY.text = mkS [] ∧ zY.scopes = [] ∧ zY.items = [] := ⟨rfl, rfl, rfl, rfl, rfl⟩
  with_reducible repeat' (first | apply And.intro | exact zR | (intro; skip) | apply c_sIsRules | apply c_sApp)
  all_goals (try simp only [std, inj] at *)
  all_goals with_reducible repeat' apply And.intro
  all_goals (try (first | with_reducible apply c_sIsRules | with_reducible apply c_sApp | (simp only [← List.map_append]; first | with_reducible apply c_sIsRules | with_reducible apply c_sApp)))
  all_goals (try (first | exact zw | grind [aprB, aprY, snocI, snocS, rowSnoc])))
abbrev P_c_iApp (B : List Binding) (r : Rules) (f : Syntax) : Ct := ⟨115, [], [ll (B.map bindingC), rulesA r, syntaxA f], syntaxO (apY B r f), .tup [syntaxR (apY B r f) 0, lb (apB B r f)]⟩
def lc_iAppLa (B : List Binding) (r : Rules) (f : Syntax) : Lp Nat := .mk 56 0 (fun x => [(4, SV.one (AC.ptr 0 0)), (5, SV.one (AC.ptr 1 0)), (6, SV.one (AC.ptr 2 0)), (8, SV.one
 (AC.ptr 3 0)), (28, ll (List.map syntaxC r.patterns)), (29, li (↑(List.map syntaxC r.patterns).length : Int)), (30, hs x 0)]) (fun x => [Ob.box (vals (rulesF r)), Ob.box (vals
 (syntaxF f)), Ob.box [vI 0, vI 0, vS (ByteArray.mk #[]), AC.val (Cell.lit (Value.slice none 0 0)), AC.val (Cell.lit (Value.slice none 0 0))], Ob.box [vL (List.map bindingC B), vL
 (List.map syntaxC r.literals)]]) (fun k => [.s (li (↑k : Int))]) (fun k => k ≤ r.patterns.length ∧ r.patterns.length ≤ 9223372036854775807 ∧ apZ B r f k = true ∧ f.kind = 0 ∧ 0 <
 f.items.length) (fun k => r.patterns.length - k) [.mk (apZ B r f r.patterns.length = true) (.exit 0) (fun x => [(6, SV.one (AC.ptr 0 0))]) (fun x => [Ob.box [vI 0, vI 0, vS
 (ByteArray.mk #[]), AC.val (Cell.lit (Value.slice none 0 0)), AC.val (Cell.lit (Value.slice none 0 0))]]) [], .mk (apZ B r f r.patterns.length = false) .ret (fun x => [(6, SV.one
 (AC.ptr 0 0)), (7, hs x 5)]) (fun x => [Ob.box [ha x 0, ha x 1, ha x 2, AC.ref 1, AC.ref 2], ho x 3, ho x 4]) [.a (vI (apY B r f).kind), .a (vI (apY B r f).number), .a (vS (apY B
 r f).text), .o (Ob.arr true 1 (List.map intC (apY B r f).scopes)), .o (Ob.arr true 5 (List.map syntaxC (apY B r f).items)), .s (lb (apB B r f))]]
theorem Sc_iAppLa (B : List Binding) (r : Rules) (f : Syntax) (h : B.length ≤ 1048577 ∧ sumBy wB B ≤ 1048577 ∧ wR r ≤ 1048576 ∧ wY f ≤ 1000000000) (hr : isRul r = true) : Lp.Sem
 Tryz.prog (loopAt Tryz.f115 0) (lc_iAppLa B r f) := lpOK (fun k => .i ((↑k : Int) < (↑(List.map syntaxC r.patterns).length : Int)) (.x (↑k : Int) (List.map syntaxC r.patterns)
 (syntaxF (r.patterns.getD k default)) (.w (.draw []) (.d [.rd] (P_c_iTail (r.patterns.getD k default)) (.d [.rd] (P_c_iTail f) (.d [.rd, .rd, .rd, .own true 12] (P_c_iMat B
 r.literals (Syntax.mk 0 0 (mkS []) [] (List.drop 1 (r.patterns.getD k default).items)) (Syntax.mk 0 0 (mkS []) [] (List.drop 1 f.items)) []) (.b (gI B r.literals (Syntax.mk 0 0
 (mkS []) [] (List.drop 1 (r.patterns.getD k default).items)) (Syntax.mk 0 0 (mkS []) [] (List.drop 1 f.items))).isSome (.x (↑k : Int) (List.map syntaxC r.templates) (syntaxF
 (r.templates.getD k default)) (.d [.rd, .rd] (P_c_iIns (r.templates.getD k default) (smO (Syntax.mk 0 0 (mkS []) [] (List.drop 1 (r.patterns.getD k default).items)) [] (gI B
 r.literals (Syntax.mk 0 0 (mkS []) [] (List.drop 1 (r.patterns.getD k default).items)) (Syntax.mk 0 0 (mkS []) [] (List.drop 1 f.items))))) (.o 1 [2, 23, 24] [.a (vI (insY
 (r.templates.getD k default) (smO (Syntax.mk 0 0 (mkS []) [] (List.drop 1 (r.patterns.getD k default).items)) [] (gI B r.literals (Syntax.mk 0 0 (mkS []) [] (List.drop 1
 (r.patterns.getD k default).items)) (Syntax.mk 0 0 (mkS []) [] (List.drop 1 f.items))))).kind), .a (vI (insY (r.templates.getD k default) (smO (Syntax.mk 0 0 (mkS []) []
 (List.drop 1 (r.patterns.getD k default).items)) [] (gI B r.literals (Syntax.mk 0 0 (mkS []) [] (List.drop 1 (r.patterns.getD k default).items)) (Syntax.mk 0 0 (mkS []) []
 (List.drop 1 f.items))))).number), .a (vS (insY (r.templates.getD k default) (smO (Syntax.mk 0 0 (mkS []) [] (List.drop 1 (r.patterns.getD k default).items)) [] (gI B r.literals
 (Syntax.mk 0 0 (mkS []) [] (List.drop 1 (r.patterns.getD k default).items)) (Syntax.mk 0 0 (mkS []) [] (List.drop 1 f.items))))).text), .o (Ob.arr true 1 (List.map intC (insY
 (r.templates.getD k default) (smO (Syntax.mk 0 0 (mkS []) [] (List.drop 1 (r.patterns.getD k default).items)) [] (gI B r.literals (Syntax.mk 0 0 (mkS []) [] (List.drop 1
 (r.patterns.getD k default).items)) (Syntax.mk 0 0 (mkS []) [] (List.drop 1 f.items))))).scopes)), .o (Ob.arr true 5 (List.map syntaxC (insY (r.templates.getD k default) (smO
 (Syntax.mk 0 0 (mkS []) [] (List.drop 1 (r.patterns.getD k default).items)) [] (gI B r.literals (Syntax.mk 0 0 (mkS []) [] (List.drop 1 (r.patterns.getD k default).items))
 (Syntax.mk 0 0 (mkS []) [] (List.drop 1 f.items))))).items)), .s (lb (insB (r.templates.getD k default) (smO (Syntax.mk 0 0 (mkS []) [] (List.drop 1 (r.patterns.getD k
 default).items)) [] (gI B r.literals (Syntax.mk 0 0 (mkS []) [] (List.drop 1 (r.patterns.getD k default).items)) (Syntax.mk 0 0 (mkS []) [] (List.drop 1 f.items))))))]))) (.r ((↑k
 : Int) + 1) (.g [0, 1, 2, 3] (k + 1) [.s (li ((↑k : Int) + 1))])))))))) (.o 0 [2] [])) (by
  intro k h; try dsimp only [teasy, nthW, lc_iAppLa] at h ⊢
  have g1 := @apZ_step B r f k
  have g0 := @apZ_no B r f k
  have g2 := @ap_at B r f k
  have g3 := @isRul_at r k hr
  have g4 := @apC_ok B r f k 1000000000 hr
  have g5 := wR_eq r
  have g6 := @sumBy_mem _ wY r.patterns (r.patterns.getD k default)
  have g7 := @sumBy_mem _ wY r.templates (r.templates.getD k default)
  have g8 := tlY_w (r.patterns.getD k default)
  have g9 := tlY_w f
  have g10 := @ap_same B r k hr
  with_reducible repeat' (first | apply And.intro | exact zR | (intro; skip) | apply c_iTail | apply c_iMat | apply c_iIns)
  all_goals (try simp only [std, inj] at *)
  all_goals with_reducible repeat' apply And.intro
  all_goals (try (first | with_reducible apply c_iTail | with_reducible apply c_iMat | with_reducible apply c_iIns | (simp only [← List.map_append]; first | with_reducible apply c_iTail | with_reducible apply c_iMat | with_reducible apply c_iIns)))
  all_goals (try (first | exact zw | grind [tlY, getD_mem', apK, apC, smO_nil, snocI, snocS, rowSnoc])))
theorem c_iApp (B : List Binding) (r : Rules) (f : Syntax) (h : B.length ≤ 1048577 ∧ sumBy wB B ≤ 1048577 ∧ wR r ≤ 1048576 ∧ wY f ≤ 1000000000) (hr : isRul r = true)  : P_c_iApp B
 r f := fnOK Tryz.call115 Tryz.func115 (.i (f.kind ≠ 0) (.y true (.w (.ghost (.nilbox 2 3 true 1)) (.w (.ghost (.nilbox 2 4 true 5)) (.f [3, 4] [Ob.arr true 1 [], Ob.arr true 5 []]
 (AV.tup [SV.agg [vI 0, vI 0, vS (ByteArray.mk #[]), AC.ref 0, AC.ref 1], lb false]))))) (.z syntaxC f.items (.i ((↑(List.map syntaxC f.items).length : Int) = 0) (.w (.ghost
 (.nilbox 2 3 true 1)) (.w (.ghost (.nilbox 2 4 true 5)) (.f [3, 4] [Ob.arr true 1 [], Ob.arr true 5 []] (AV.tup [SV.agg [vI 0, vI 0, vS (ByteArray.mk #[]), AC.ref 0, AC.ref 1], lb
 false])))) (.z syntaxC r.patterns (.l (lc_iAppLa B r f) (Sc_iAppLa B r f h hr) [0, 1, 2, 3] [.s (li 0)] 0 (.t (.w (.ghost (.nilbox 0 3 true 1)) (.w (.ghost (.nilbox 0 4 true 5))
 (.f [1, 2] [Ob.arr true 1 [], Ob.arr true 5 []] (AV.tup [SV.agg [vI 0, vI 0, vS (ByteArray.mk #[]), AC.ref 0, AC.ref 1], lb false])))) (.t (.f [1, 2] [Ob.arr true 1 (List.map intC
 (apY B r f).scopes), Ob.arr true 5 (List.map syntaxC (apY B r f).items)] (AV.tup [SV.agg [vI (apY B r f).kind, vI (apY B r f).number, vS (apY B r f).text, AC.ref 0, AC.ref 1], lb
 (apB B r f)])) .q))))))) (by
  dsimp only [teasy, P_c_iApp, nthW, lc_iAppLa]
  have g1 := @ap_kind B r f
  have g2 := @ap_empty B r f
  have g3 := @ap_none B r f
  have gz : zY.kind = 0 ∧ zY.number = 0 ∧ zY.text = mkS [] ∧ zY.scopes = [] ∧ zY.items = [] := ⟨rfl, rfl, rfl, rfl, rfl⟩
  with_reducible repeat' (first | apply And.intro | exact zR | (intro; skip) | apply c_iTail | apply c_iMat | apply c_iIns)
  all_goals (try simp only [std, inj] at *)
  all_goals with_reducible repeat' apply And.intro
  all_goals (try (first | with_reducible apply c_iTail | with_reducible apply c_iMat | with_reducible apply c_iIns | (simp only [← List.map_append]; first | with_reducible apply c_iTail | with_reducible apply c_iMat | with_reducible apply c_iIns)))
  all_goals (try (first | exact zw | grind [apZ_zero, snocI, snocS, rowSnoc])))
abbrev P_c_iAppR (B : List Binding) (r : Rules) (f : Syntax) : Ct := ⟨49, [], [ll (B.map bindingC), rulesA r, syntaxA f], syntaxO (aprY B r f), .tup [syntaxR (aprY B r f) 0, lb (aprB B r f)]⟩
theorem c_iAppR (B : List Binding) (r : Rules) (f : Syntax) (h : B.length ≤ 1048577 ∧ sumBy wB B ≤ 1048577 ∧ wR r ≤ 1048576 ∧ wY f ≤ 1000000000)  : P_c_iAppR B r f := fnOK
 Tryz.call49 Tryz.func49 (.c [.rd] (c_iAre B) (.b (!areB B) (.y true (.y true (.w (.ghost (.nilbox 2 3 true 1)) (.w (.ghost (.nilbox 2 4 true 5)) (.f [3, 4] [Ob.arr true 1 [], Ob.arr
 true 5 []] (AV.tup [SV.agg [vI 0, vI 0, vS (ByteArray.mk #[]), AC.ref 0, AC.ref 1], lb false])))))) (.d [.rd] (P_c_iIsRules r) (.b (!isRul r) (.y true (.w (.ghost (.nilbox 2 3
 true 1)) (.w (.ghost (.nilbox 2 4 true 5)) (.f [3, 4] [Ob.arr true 1 [], Ob.arr true 5 []] (AV.tup [SV.agg [vI 0, vI 0, vS (ByteArray.mk #[]), AC.ref 0, AC.ref 1], lb false])))))
 (.c [.rd] (c_iIsSyntax f) (.b (!isSyn f) (.w (.ghost (.nilbox 2 3 true 1)) (.w (.ghost (.nilbox 2 4 true 5)) (.f [3, 4] [Ob.arr true 1 [], Ob.arr true 5 []] (AV.tup [SV.agg [vI 0,
 vI 0, vS (ByteArray.mk #[]), AC.ref 0, AC.ref 1], lb false])))) (.d [.rd, .rd, .rd] (P_c_iApp B r f) (.f [3, 4] [Ob.arr true 1 (List.map intC (apY B r f).scopes), Ob.arr true 5
 (List.map syntaxC (apY B r f).items)] (AV.tup [SV.agg [vI (apY B r f).kind, vI (apY B r f).number, vS (apY B r f).text, AC.ref 0, AC.ref 1], lb (apB B r f)]))))))))) (by
  dsimp only [teasy, P_c_iAppR]
  have gz : zY.kind = 0 ∧ zY.number = 0 ∧ zY.text = mkS [] ∧ zY.scopes = [] ∧ zY.items = [] := ⟨rfl, rfl, rfl, rfl, rfl⟩
  with_reducible repeat' (first | apply And.intro | exact zR | (intro; skip) | apply c_iIsRules | apply c_iApp)
  all_goals (try simp only [std, inj] at *)
  all_goals with_reducible repeat' apply And.intro
  all_goals (try (first | with_reducible apply c_iIsRules | with_reducible apply c_iApp | (simp only [← List.map_append]; first | with_reducible apply c_iIsRules | with_reducible apply c_iApp)))
  all_goals (try (first | exact zw | grind [aprB, aprY, snocI, snocS, rowSnoc])))
end Go.Proofs.YtpnaoendfpaodaaGreat
end
section
namespace Go.Proofs.YtpnaoendfpaodaaGreat
open Go Go.Proofs.YtpnaoendfpaodaaGreat.Ab
set_option linter.unusedVariables false
set_option linter.unusedSimpArgs false
set_option maxHeartbeats 4000000
abbrev P_c_markIntS (L : List Int) (n : Int) : Ct := ⟨80, [.arr true 1 (L.map intC)], [.one (.ref 0), li n], [.arr true 1 ((seqM mkI cOne L n).map intC)], .sv (li (n + L.length))⟩
def lc_markIntSLa (L : List Int) (n : Int) : Lp Nat := .mk 19 1 (fun x => [(0, SV.one (AC.ref 0)), (1, hs x 1), (5, hs x 0)]) (fun x => [ho x 2]) (fun k => [.s (li (↑k : Int)), .s
 (li (n + (↑k : Int))), .o (Ob.arr true 1 (List.map intC (mkTo mkI cOne L n k)))]) (fun k => k ≤ L.length ∧ L.length ≤ 9223372036854775807) (fun k => L.length - k) [.mk True (.exit
 0) (fun x => [(1, hs x 0)]) (fun x => [ho x 1]) [.s (li (n + (↑L.length : Int))), .o (Ob.arr true 1 (List.map intC (seqM mkI cOne L n)))]]
theorem Sc_markIntSLa (L : List Int) (n : Int) (h0 : 0 ≤ n) (h : n + (↑L.length : Int) ≤ 100000000000000) : Lp.Sem Tryz.prog (loopAt Tryz.f80 0) (lc_markIntSLa L n) := lpOK (fun k
 => .z intC (mkTo mkI cOne L n k) (.i ((↑k : Int) < (↑(List.map intC (mkTo mkI cOne L n k)).length : Int)) (.p (0 ≤ (↑k : Int) ∧ (↑k : Int).toNat < (List.map intC (mkTo mkI cOne L
 n k)).length) (.w (.cells (intC (L.getD (↑k : Int).toNat default))) (.p ((List.map intC (mkTo mkI cOne L n k))[(↑k : Int).toNat]? = some [cI (L.getD (↑k : Int).toNat 0)]) (.r (n +
 (↑k : Int) + 1) (.r ((↑k : Int) + 1) (.g [0] (k + 1) [.s (li ((↑k : Int) + 1)), .s (li (n + (↑k : Int) + 1)), .o (Ob.arr true 1 ((List.map intC (mkTo mkI cOne L n k)).set (↑k :
 Int).toNat [cI (n + (↑k : Int))]))])))))) (.o 0 [0] [.s (li (n + (↑k : Int))), .o (Ob.arr true 1 (List.map intC (mkTo mkI cOne L n k)))]))) (by
  intro k h; try dsimp only [teasy, nthW, lc_markIntSLa] at h ⊢
  with_reducible repeat' (first | apply And.intro | exact zR | (intro; skip))
  all_goals (try simp only [std, stdM, inj] at *)
  all_goals with_reducible repeat' apply And.intro
  all_goals (try (first | exact z | ((first | refine rowGet ?_ | refine getC ?_ rfl); (first | omega | (simp only [std, stdM]; omega) | grind)) | (refine set_row ?_; (simp only [List.length_map, List.length_set, mkTo_len]; omega)) | (refine mkToRow ?_; (first | omega | (simp only [std, stdM]; omega) | grind)) | (refine mkTo_row ?_ rfl; (first | omega | (simp only [std, stdM]; omega) | grind)) | (refine mkTo_step ?_ ?_; (first | omega | (simp only [std, stdM]; omega) | grind); (first | grind [mkTo_all, mkI, cOne_take, intC, mkTo_get, snocI, snocS, rowSnoc])) | grind [mkTo_all, mkI, cOne_take, intC, mkTo_get, snocI, snocS, rowSnoc])))
theorem c_markIntS (L : List Int) (n : Int) (h0 : 0 ≤ n) (h : n + L.length ≤ 100000000000000)  : P_c_markIntS L n := fnOK Tryz.call80 Tryz.func80 (.l (lc_markIntSLa L n)
 (Sc_markIntSLa L n h0 h) [0] [.s (li 0), .s (li n), .o (Ob.arr true 1 (List.map intC L))] 0 (.t (.f [] [Ob.arr true 1 (List.map intC (seqM mkI cOne L n))] (AV.sv (li (n +
 (↑L.length : Int))))) .q)) (by
  dsimp only [teasy, P_c_markIntS, nthW, lc_markIntSLa]
  with_reducible repeat' (first | apply And.intro | exact zR | (intro; skip))
  all_goals (try simp only [std, stdM, inj] at *)
  all_goals with_reducible repeat' apply And.intro
  all_goals (try (first | exact z | ((first | refine rowGet ?_ | refine getC ?_ rfl); (first | omega | (simp only [std, stdM]; omega) | grind)) | (refine set_row ?_; (simp only [List.length_map, List.length_set, mkTo_len]; omega)) | (refine mkToRow ?_; (first | omega | (simp only [std, stdM]; omega) | grind)) | (refine mkTo_row ?_ rfl; (first | omega | (simp only [std, stdM]; omega) | grind)) | (refine mkTo_step ?_ ?_; (first | omega | (simp only [std, stdM]; omega) | grind); (first | grind [mkTo_zero, snocI, snocS, rowSnoc])) | grind [mkTo_zero, snocI, snocS, rowSnoc])))
abbrev P_c_markText (n : Int) : Ct := ⟨95, [], [li n], [], .sv (ls (mText n))⟩
def lc_markTextLa (n : Int) : Lp (Int × List UInt8) := .mk 20 0 (fun x => [(0, hs x 0), (3, hs x 1)]) (fun x => []) (fun k => [.s (li k.fst), .s (ls (mkS k.snd))]) (fun k => 0 ≤
 k.fst ∧ k.fst ≤ n ∧ digs k.fst.toNat ++ k.snd = digs n.toNat) (fun k => k.fst.toNat) [.mk True (.exit 0) (fun x => [(3, hs x 0)]) (fun x => []) [.s (ls (mkS (digs n.toNat)))]]
theorem Sc_markTextLa (n : Int) (h0 : 0 ≤ n) (h : n ≤ 100000000000000) : Lp.Sem Tryz.prog (loopAt Tryz.f95 0) (lc_markTextLa n) := lpOK (fun k => .i (0 < k.fst) (.p ((10 : Int) ≠
 0) (.r (48 + k.fst.tmod 10) (.p (rng IntKind.u8 (48 + k.fst.tmod 10)) (.w (.bytes [UInt8.ofNat (48 + k.fst.tmod 10).toNat]) (.p ([[Cell.lit (Value.int IntKind.u8 (48 + k.fst.tmod
 10))]] = [[Cell.lit (Value.int IntKind.u8 (↑(UInt8.ofNat (48 + k.fst.tmod 10).toNat).toNat : Int))]]) (.p (1 + k.snd.length ≤ 9223372036854775807) (.p ((10 : Int) ≠ 0) (.r
 (k.fst.tdiv 10) (.g [] (k.fst.tdiv 10, [UInt8.ofNat (48 + k.fst.tmod 10).toNat] ++ k.snd) [.s (li (k.fst.tdiv 10)), .s (ls (ByteArray.mk ([UInt8.ofNat (48 + k.fst.tmod 10).toNat]
 ++ k.snd).toArray))]))))))))) (.o 0 [] [.s (ls (mkS k.snd))])) (by
  intro k h; try dsimp only [teasy, nthW, lc_markTextLa] at h ⊢
  obtain ⟨i, l⟩ := k
  simp only at *
  obtain ⟨g1, g2, g3⟩ := h
  have g4 : l.length ≤ 100000000000000 := by
    have := congrArg List.length g3
    have := digs_len n.toNat
    simp only [List.length_append] at *
    omega
  simp only [Int.tmod_eq_emod_of_nonneg g1, Int.tdiv_eq_ediv_of_nonneg g1]
  refine ⟨fun g => ?_, fun g => ?_⟩
  · refine ⟨by decide, by rw [rng64]; omega, by rw [rngu8]; omega, by rw [u8_int (by omega) (by omega)], by omega, by decide, by rw [rng64]; omega, by omega, rfl, ?_⟩
    exact ⟨by show 0 ≤ i / 10; omega, by show i / 10 ≤ n; omega, by show digs (i / 10).toNat ++ ([_] ++ l) = _; rw [← g3, digs_int g, List.append_assoc]⟩
  · refine ⟨trivial, ?_⟩
    have e : i = 0 := by omega
    subst e
    rw [show digs (0 : Int).toNat = [] from digs_zero] at g3
    rw [← g3]; rfl)
theorem c_markText (n : Int) (h0 : 0 ≤ n) (h : n ≤ 100000000000000)  : P_c_markText n := fnOK Tryz.call95 Tryz.func95 (.i (n ≤ 0) (.s (ls (ByteArray.mk #[(109 : UInt8), (48 :
 UInt8)]))) (.l (lc_markTextLa n) (Sc_markTextLa n h0 h) [] [.s (li n), .s (ls (ByteArray.mk #[]))] (n, []) (.t (.p (1 + (digs n.toNat).length ≤ 9223372036854775807) (.s (ls
 (ByteArray.mk ([(109 : UInt8)] ++ digs n.toNat).toArray)))) .q))) (by
  dsimp only [teasy, P_c_markText, nthW, lc_markTextLa]
  have g := digs_len n.toNat
  simp only [mText]
  with_reducible repeat' (first | apply And.intro | exact zR | (intro; skip))
  all_goals (try simp only [std, stdM, inj] at *)
  all_goals with_reducible repeat' apply And.intro
  all_goals (try (first | exact z | ((first | refine rowGet ?_ | refine getC ?_ rfl); (first | omega | (simp only [std, stdM]; omega) | grind)) | (refine set_row ?_; (simp only [List.length_map, List.length_set, mkTo_len]; omega)) | (refine mkToRow ?_; (first | omega | (simp only [std, stdM]; omega) | grind)) | (refine mkTo_row ?_ rfl; (first | omega | (simp only [std, stdM]; omega) | grind)) | (refine mkTo_step ?_ ?_; (first | omega | (simp only [std, stdM]; omega) | grind); (first | grind [mkS, snocI, snocS, rowSnoc])) | grind [mkS, snocI, snocS, rowSnoc])))
abbrev P_c_markSyntaxS (x : Syntax) (n : Int) : Ct := ⟨45, [.arr true 5 (x.items.map syntaxC)], [.one (.ref 0), li n], [.arr true 5 ((seqM mkY cY x.items n).map syntaxC)], .sv (li (n + sumBy cY x.items))⟩
def lc_markSyntaxS_sLa (x : Syntax) (n : Int) : Lp Nat := .mk 49 1 (fun x => [(0, SV.one (AC.ref 0)), (1, hs x 1), (5, hs x 0)]) (fun x => [ho x 2]) (fun k => [.s (li (↑k : Int)),
 .s (li (n + (↑(sumBy cY (List.take k x.items)) : Int))), .o (Ob.arr true 5 (List.map syntaxC (mkTo mkY cY x.items n k)))]) (fun k => k ≤ x.items.length ∧ x.items.length ≤
 9223372036854775807) (fun k => x.items.length - k) [.mk True (.exit 0) (fun x => [(1, hs x 0)]) (fun x => [ho x 1]) [.s (li (n + (↑(sumBy cY x.items) : Int))), .o (Ob.arr true 5
 (List.map syntaxC (seqM mkY cY x.items n)))]]
theorem Sc_markSyntaxS_sLa (x : Syntax) (n : Int) (h0 : 0 ≤ n) (h : n + (↑(sumBy cY x.items) : Int) ≤ 100000000000000) (ih : ∀ (z : Syntax), z ∈ x.items → ∀ (n : Int), 0 ≤ n → n +
 (↑(sumBy cY z.items) : Int) ≤ 100000000000000 → OK (P_c_markSyntaxS z n)) : Lp.Sem Tryz.prog (loopAt Tryz.f45 0) (lc_markSyntaxS_sLa x n) := lpOK (fun k => let v8 := (↑(sumBy cY
 (List.take k x.items)) : Int); let v12 := (n + v8 + 1 + 1); let v7 := (x.items.getD (↑k : Int).toNat default); let v13 := (List.map intC v7.scopes); let v11 := (List.map syntaxC
 v7.items); let v1 := [cI (n + v8), cI (n + v8 + 1), cS (mText v12), Cell.list v13, Cell.list v11]; let v10 := (n + v8 + 1 + 1 + 1); let v2 := [cI (n + v8), cI (n + v8 + 1), cS
 (mText v12), Cell.list (List.map intC (seqM mkI cOne v7.scopes v10)), Cell.list v11]; let v3 := [cI (n + v8), cI (n + v8 + 1), cS v7.text, Cell.list v13, Cell.list v11]; let v4 :=
 [cI (n + v8), cI v7.number, cS v7.text, Cell.list v13, Cell.list v11]; let v5 := (List.map syntaxC (mkTo mkY cY x.items n k)); let v6 := (n + v8 + 1 + 1 + 1 + (↑(x.items.getD (↑k
 : Int).toNat default).scopes.length : Int)); let v9 := (v5.set (↑k : Int).toNat v1); .z syntaxC (mkTo mkY cY x.items n k) (.i ((↑k : Int) < (↑(List.map syntaxC (mkTo mkY cY
 x.items n k)).length : Int)) (.p (0 ≤ (↑k : Int) ∧ (↑k : Int).toNat < v5.length) (.w (.cells (syntaxF v7)) (.p (v5[(↑k : Int).toNat]? = some (syntaxF v7)) (.r (n + v8 + 1) (.p (0
 ≤ (↑k : Int) ∧ (↑k : Int).toNat < (v5.set (↑k : Int).toNat v4).length) (.w (.take v4 (v5.set (↑k : Int).toNat v3) 0) (.p ((v5.set (↑k : Int).toNat v4)[(↑k : Int).toNat]? = some
 v4) (.p ((v5.set (↑k : Int).toNat v4).set (↑k : Int).toNat v3 = v5.set (↑k : Int).toNat v3) (.r v12 (.d [.rd] (P_c_markText v12) (.p (0 ≤ (↑k : Int) ∧ (↑k : Int).toNat < (v5.set
 (↑k : Int).toNat v3).length) (.w (.take v3 v9 0) (.p ((v5.set (↑k : Int).toNat v3)[(↑k : Int).toNat]? = some v3) (.p ((v5.set (↑k : Int).toNat v3).set (↑k : Int).toNat v1 = v5.set
 (↑k : Int).toNat v1) (.r v10 (.p (0 ≤ (↑k : Int) ∧ (↑k : Int).toNat < v9.length) (.w .sub (.p ((↑k : Int).toNat < v9.length) (.w (.subcall v1 v13 1) (.u [.own true 1, .rd]
 (P_c_markIntS v7.scopes v10) (.p (v9[(↑k : Int).toNat]? = some v1) (.p (some (Cell.list v13) = some (Cell.list v13)) (.p (∀ (x_1 : List Cell), x_1 ∈ List.map intC v7.scopes →
 x_1.length = 1) (.p (OK (P_c_markIntS v7.scopes v10)) (.p (0 ≤ (↑k : Int) ∧ (↑k : Int).toNat < (v9.set (↑k : Int).toNat v2).length) (.w .sub (.p ((↑k : Int).toNat < (v9.set (↑k :
 Int).toNat v2).length) (.w (.subcall v2 v11 5) (.u [.own true 5, .rd] (P_c_markSyntaxS v7 v6) (.p ((v9.set (↑k : Int).toNat v2)[(↑k : Int).toNat]? = some v2) (.p (some (Cell.list
 v11) = some (Cell.list v11)) (.p (∀ (x_1 : List Cell), x_1 ∈ List.map syntaxC v7.items → x_1.length = 5) (.p (OK (P_c_markSyntaxS v7 v6)) (.r ((↑k : Int) + 1) (.g [0] (k + 1) [.s
 (li ((↑k : Int) + 1)), .s (li (n + v8 + 1 + 1 + 1 + (↑(x.items.getD (↑k : Int).toNat default).scopes.length : Int) + (↑(sumBy cY v7.items) : Int))), .o (Ob.arr true 5 ((v9.set (↑k
 : Int).toNat v2).set (↑k : Int).toNat [cI (n + v8), cI (n + v8 + 1), cS (mText v12), Cell.list (List.map intC (seqM mkI cOne v7.scopes v10)), Cell.list (List.map syntaxC (seqM mkY
 cY v7.items v6))]))]))))))))))))))))))))))))))))))))))) (.o 0 [0] [.s (li (n + v8)), .o (Ob.arr true 5 v5)]))) (by
  intro k h; try dsimp only [teasy, nthW, lc_markSyntaxS_sLa] at h ⊢
  have g0 := sumBy_takeLe cY x.items (k + 1)
  with_reducible repeat' (first | apply And.intro | exact zR | exact ih | (intro; skip) | apply c_markText | apply c_markIntS | apply ih)
  all_goals (try simp only [std, stdM, inj] at *)
  all_goals with_reducible repeat' apply And.intro
  all_goals (try (first | with_reducible apply c_markText | with_reducible apply c_markIntS | with_reducible apply ih | (simp only [← List.map_append]; first | with_reducible apply c_markText | with_reducible apply c_markIntS | with_reducible apply ih)))
  all_goals (try (first | exact z | ((first | refine rowGet ?_ | refine getC ?_ rfl); (first | omega | (simp only [std, stdM]; omega) | grind)) | (refine set_row ?_; (simp only [List.length_map, List.length_set, mkTo_len]; omega)) | (refine mkToRow ?_; (first | omega | (simp only [std, stdM]; omega) | grind)) | (refine mkTo_row ?_ rfl; (first | omega | (simp only [std, stdM]; omega) | grind)) | (refine mkTo_step ?_ ?_; (first | omega | (simp only [std, stdM]; omega) | grind); (first | exact mkY_C _ _ | grind [sumBy_step, getD_mem', cY_eq, mkY_C, mkTo_all, snocI, snocS, rowSnoc])) | grind [sumBy_step, getD_mem', cY_eq, mkY_C, mkTo_all, snocI, snocS, rowSnoc])))
theorem c_markSyntaxS_s (x : Syntax) (n : Int) (h0 : 0 ≤ n) (h : n + sumBy cY x.items ≤ 100000000000000) (ih : ∀ z ∈ x.items, ∀ (n : Int) (h0 : 0 ≤ n) (h : n + sumBy cY z.items ≤
 100000000000000), P_c_markSyntaxS z n)  : P_c_markSyntaxS x n := fnOK Tryz.call45 Tryz.func45 (.l (lc_markSyntaxS_sLa x n) (Sc_markSyntaxS_sLa x n h0 h ih) [0] [.s (li 0), .s (li
 n), .o (Ob.arr true 5 (List.map syntaxC x.items))] 0 (.t (.f [] [Ob.arr true 5 (List.map syntaxC (seqM mkY cY x.items n))] (AV.sv (li (n + (↑(sumBy cY x.items) : Int))))) .q)) (by
  dsimp only [teasy, P_c_markSyntaxS, nthW, lc_markSyntaxS_sLa]
  have gl := cY_len x.items
  with_reducible repeat' (first | apply And.intro | exact zR | exact ih | (intro; skip) | apply c_markText | apply c_markIntS)
  all_goals (try simp only [std, stdM, inj] at *)
  all_goals with_reducible repeat' apply And.intro
  all_goals (try (first | with_reducible apply c_markText | with_reducible apply c_markIntS | with_reducible apply ih | (simp only [← List.map_append]; first | with_reducible apply c_markText | with_reducible apply c_markIntS | with_reducible apply ih)))
  all_goals (try (first | exact z | ((first | refine rowGet ?_ | refine getC ?_ rfl); (first | omega | (simp only [std, stdM]; omega) | grind)) | (refine set_row ?_; (simp only [List.length_map, List.length_set, mkTo_len]; omega)) | (refine mkToRow ?_; (first | omega | (simp only [std, stdM]; omega) | grind)) | (refine mkTo_row ?_ rfl; (first | omega | (simp only [std, stdM]; omega) | grind)) | (refine mkTo_step ?_ ?_; (first | omega | (simp only [std, stdM]; omega) | grind); (first | grind [mkTo_all, snocI, snocS, rowSnoc])) | grind [mkTo_all, snocI, snocS, rowSnoc])))
theorem c_markSyntaxS (x : Syntax) : ∀ (n : Int) (h0 : 0 ≤ n) (h : n + sumBy cY x.items ≤ 100000000000000), P_c_markSyntaxS x n := Syntax.ind (P := fun x => ∀ (n : Int) (h0 : 0 ≤ n) (h : n + sumBy cY x.items ≤ 100000000000000), P_c_markSyntaxS x n) (fun x ih n h0 h => c_markSyntaxS_s x n h0 h ih) x
theorem c_markSyntaxSL (L : List Syntax) (n : Int) (h0 : 0 ≤ n) (h : n + sumBy cY L ≤ 100000000000000) : P_c_markSyntaxS { (default : Syntax) with items := L } n := c_markSyntaxS { (default : Syntax) with items := L } n h0 h
abbrev P_c_markSyntax (x : Syntax) (n : Int) : Ct := ⟨23, [.arr true 1 (x.scopes.map intC), .arr true 5 (x.items.map syntaxC)], [.agg [vI x.kind, vI x.number, vS x.text, .ref 0, .ref 1], li n], [.arr true 1 ((seqM mkI cOne x.scopes (n)).map intC), .arr true 5 ((seqM mkY cY x.items (n + x.scopes.length)).map syntaxC)], .sv (li (n + x.scopes.length + sumBy cY x.items))⟩
theorem c_markSyntax (x : Syntax) (n : Int) (h0 : 0 ≤ n) (h : n + (x.scopes.length + sumBy cY x.items : Nat) ≤ 100000000000000)  : P_c_markSyntax x n := fnOK Tryz.call23 Tryz.func23
 (.d [.own true 1, .rd] (P_c_markIntS x.scopes n) (.d [.own true 5, .rd] (P_c_markSyntaxS x (n + (↑x.scopes.length : Int))) (.f [] [Ob.arr true 1 (List.map intC (seqM mkI cOne
 x.scopes n)), Ob.arr true 5 (List.map syntaxC (seqM mkY cY x.items (n + (↑x.scopes.length : Int))))] (AV.sv (li (n + (↑x.scopes.length : Int) + (↑(sumBy cY x.items) : Int)))))))
 (by
  dsimp only [teasy, P_c_markSyntax]
  with_reducible repeat' (first | apply And.intro | exact zR | (intro; skip) | apply c_markIntS | apply c_markSyntaxS | apply c_markSyntaxSL)
  all_goals (try simp only [std, stdM, inj] at *)
  all_goals with_reducible repeat' apply And.intro
  all_goals (try (first | with_reducible apply c_markIntS | with_reducible apply c_markSyntaxS | with_reducible apply c_markSyntaxSL | (simp only [← List.map_append]; first | with_reducible apply c_markIntS | with_reducible apply c_markSyntaxS | with_reducible apply c_markSyntaxSL)))
  all_goals (try (first | exact z | ((first | refine rowGet ?_ | refine getC ?_ rfl); (first | omega | (simp only [std, stdM]; omega) | grind)) | (refine set_row ?_; (simp only [List.length_map, List.length_set, mkTo_len]; omega)) | (refine mkToRow ?_; (first | omega | (simp only [std, stdM]; omega) | grind)) | (refine mkTo_row ?_ rfl; (first | omega | (simp only [std, stdM]; omega) | grind)) | (refine mkTo_step ?_ ?_; (first | omega | (simp only [std, stdM]; omega) | grind); (first | grind [snocI, snocS, rowSnoc])) | grind [snocI, snocS, rowSnoc])))
abbrev P_c_markBindingS (L : List Binding) (n : Int) : Ct := ⟨44, [.arr true 4 (L.map bindingC)], [.one (.ref 0), li n], [.arr true 4 ((seqM mkB cB L n).map bindingC)], .sv (li (n + sumBy cB L))⟩
def lc_markBindingSLa (L : List Binding) (n : Int) : Lp Nat := .mk 42 1 (fun x => [(0, SV.one (AC.ref 0)), (1, hs x 1), (5, hs x 0)]) (fun x => [ho x 2]) (fun k => [.s (li (↑k :
 Int)), .s (li (n + (↑(sumBy cB (List.take k L)) : Int))), .o (Ob.arr true 4 (List.map bindingC (mkTo mkB cB L n k)))]) (fun k => k ≤ L.length ∧ L.length ≤ 9223372036854775807)
 (fun k => L.length - k) [.mk True (.exit 0) (fun x => [(1, hs x 0)]) (fun x => [ho x 1]) [.s (li (n + (↑(sumBy cB L) : Int))), .o (Ob.arr true 4 (List.map bindingC (seqM mkB cB L
 n)))]]
theorem Sc_markBindingSLa (L : List Binding) (n : Int) (h0 : 0 ≤ n) (h : n + (↑(sumBy cB L) : Int) ≤ 100000000000000) : Lp.Sem Tryz.prog (loopAt Tryz.f44 0) (lc_markBindingSLa L n)
 := lpOK (fun k => let v9 := (List.map bindingC (mkTo mkB cB L n k)); let v8 := (↑(sumBy cB (List.take k L)) : Int); let v7 := (L.getD (↑k : Int).toNat default); let v11 := [cS
 (mText (n + v8)), Cell.list (List.map intC v7.scopes), cI v7.kind, cI v7.number]; let v1 := (v9.set (↑k : Int).toNat v11); let v12 := (List.map intC (seqM mkI cOne v7.scopes (n +
 v8 + 1))); let v10 := (↑(L.getD (↑k : Int).toNat default).scopes.length : Int); let v2 := [cS (mText (n + v8)), Cell.list v12, cI (n + v8 + 1 + v10), cI v7.number]; let v3 := [cS
 (mText (n + v8)), Cell.list v12, cI (n + v8 + 1 + v10), cI (n + v8 + 1 + v10 + 1)]; let v4 := [cS (mText (n + v8)), Cell.list v12, cI v7.kind, cI v7.number]; let v5 := (n + v8 + 1
 + v10 + 1 + 1); let v6 := (P_c_markIntS v7.scopes (n + v8 + 1)); .z bindingC (mkTo mkB cB L n k) (.i ((↑k : Int) < (↑(List.map bindingC (mkTo mkB cB L n k)).length : Int)) (.d
 [.rd] (P_c_markText (n + v8)) (.p (0 ≤ (↑k : Int) ∧ (↑k : Int).toNat < v9.length) (.w (.cells (bindingF v7)) (.p (v9[(↑k : Int).toNat]? = some (bindingF v7)) (.r (n + v8 + 1) (.p
 (0 ≤ (↑k : Int) ∧ (↑k : Int).toNat < v1.length) (.w .sub (.p ((↑k : Int).toNat < v1.length) (.w (.subcall v11 (List.map intC v7.scopes) 1) (.u [.own true 1, .rd] v6 (.p (v1[(↑k :
 Int).toNat]? = some v11) (.p (some (Cell.list (List.map intC v7.scopes)) = some (Cell.list (List.map intC v7.scopes))) (.p (∀ (x : List Cell), x ∈ List.map intC v7.scopes →
 x.length = 1) (.p (OK v6) (.p (0 ≤ (↑k : Int) ∧ (↑k : Int).toNat < (v1.set (↑k : Int).toNat v4).length) (.w (.take v4 (v1.set (↑k : Int).toNat v2) 0) (.p ((v1.set (↑k : Int).toNat
 v4)[(↑k : Int).toNat]? = some v4) (.p ((v1.set (↑k : Int).toNat v4).set (↑k : Int).toNat v2 = v1.set (↑k : Int).toNat v2) (.r (n + v8 + 1 + v10 + 1) (.p (0 ≤ (↑k : Int) ∧ (↑k :
 Int).toNat < (v1.set (↑k : Int).toNat v2).length) (.w (.take v2 (v1.set (↑k : Int).toNat v3) 0) (.p ((v1.set (↑k : Int).toNat v2)[(↑k : Int).toNat]? = some v2) (.p ((v1.set (↑k :
 Int).toNat v2).set (↑k : Int).toNat v3 = v1.set (↑k : Int).toNat v3) (.r v5 (.r ((↑k : Int) + 1) (.g [0] (k + 1) [.s (li ((↑k : Int) + 1)), .s (li v5), .o (Ob.arr true 4 (v1.set
 (↑k : Int).toNat v3))])))))))))))))))))))))))))) (.o 0 [0] [.s (li (n + v8)), .o (Ob.arr true 4 v9)]))) (by
  intro k h; try dsimp only [teasy, nthW, lc_markBindingSLa] at h ⊢
  have g0 := sumBy_takeLe cB L (k + 1)
  with_reducible repeat' (first | apply And.intro | exact zR | (intro; skip) | apply c_markText | apply c_markIntS)
  all_goals (try simp only [std, stdM, inj] at *)
  all_goals with_reducible repeat' apply And.intro
  all_goals (try (first | with_reducible apply c_markText | with_reducible apply c_markIntS | (simp only [← List.map_append]; first | with_reducible apply c_markText | with_reducible apply c_markIntS)))
  all_goals (try (first | exact z | ((first | refine rowGet ?_ | refine getC ?_ rfl); (first | omega | (simp only [std, stdM]; omega) | grind)) | (refine set_row ?_; (simp only [List.length_map, List.length_set, mkTo_len]; omega)) | (refine mkToRow ?_; (first | omega | (simp only [std, stdM]; omega) | grind)) | (refine mkTo_row ?_ rfl; (first | omega | (simp only [std, stdM]; omega) | grind)) | (refine mkTo_step ?_ ?_; (first | omega | (simp only [std, stdM]; omega) | grind); (first | exact mkB_C _ _ | grind [sumBy_step, getD_mem', cB_eq, mkB_C, mkTo_all, snocI, snocS, rowSnoc])) | grind [sumBy_step, getD_mem', cB_eq, mkB_C, mkTo_all, snocI, snocS, rowSnoc])))
theorem c_markBindingS (L : List Binding) (n : Int) (h0 : 0 ≤ n) (h : n + sumBy cB L ≤ 100000000000000)  : P_c_markBindingS L n := fnOK Tryz.call44 Tryz.func44 (.l (lc_markBindingSLa
 L n) (Sc_markBindingSLa L n h0 h) [0] [.s (li 0), .s (li n), .o (Ob.arr true 4 (List.map bindingC L))] 0 (.t (.f [] [Ob.arr true 4 (List.map bindingC (seqM mkB cB L n))] (AV.sv
 (li (n + (↑(sumBy cB L) : Int))))) .q)) (by
  dsimp only [teasy, P_c_markBindingS, nthW, lc_markBindingSLa]
  have gl := cB_len L
  with_reducible repeat' (first | apply And.intro | exact zR | (intro; skip) | apply c_markText | apply c_markIntS)
  all_goals (try simp only [std, stdM, inj] at *)
  all_goals with_reducible repeat' apply And.intro
  all_goals (try (first | with_reducible apply c_markText | with_reducible apply c_markIntS | (simp only [← List.map_append]; first | with_reducible apply c_markText | with_reducible apply c_markIntS)))
  all_goals (try (first | exact z | ((first | refine rowGet ?_ | refine getC ?_ rfl); (first | omega | (simp only [std, stdM]; omega) | grind)) | (refine set_row ?_; (simp only [List.length_map, List.length_set, mkTo_len]; omega)) | (refine mkToRow ?_; (first | omega | (simp only [std, stdM]; omega) | grind)) | (refine mkTo_row ?_ rfl; (first | omega | (simp only [std, stdM]; omega) | grind)) | (refine mkTo_step ?_ ?_; (first | omega | (simp only [std, stdM]; omega) | grind); (first | grind [mkTo_all, snocI, snocS, rowSnoc])) | grind [mkTo_all, snocI, snocS, rowSnoc])))
abbrev P_c_markRules (x : Rules) (n : Int) : Ct := ⟨24, [.arr true 5 (x.literals.map syntaxC), .arr true 5 (x.patterns.map syntaxC), .arr true 5 (x.templates.map syntaxC)], [.agg [.ref 0, .ref 1, .ref 2], li n], [.arr true 5 ((seqM mkY cY x.literals (n)).map syntaxC), .arr true 5 ((seqM mkY cY x.patterns (n + sumBy cY x.literals)).map syntaxC), .arr true 5 ((seqM mkY cY x.templates (n + sumBy cY x.literals + sumBy cY x.patterns)).map syntaxC)], .sv (li (n + sumBy cY x.literals + sumBy cY x.patterns + sumBy cY x.templates))⟩
theorem c_markRules (x : Rules) (n : Int) (h0 : 0 ≤ n) (h : n + (sumBy cY x.literals + sumBy cY x.patterns + sumBy cY x.templates : Nat) ≤ 100000000000000)  : P_c_markRules x n :=
 fnOK Tryz.call24 Tryz.func24 (.d [.own true 5, .rd] (P_c_markSyntaxS (Syntax.mk 0 0 default [] x.literals) n) (.d [.own true 5, .rd] (P_c_markSyntaxS (Syntax.mk 0 0 default []
 x.patterns) (n + (↑(sumBy cY x.literals) : Int))) (.d [.own true 5, .rd] (P_c_markSyntaxS (Syntax.mk 0 0 default [] x.templates) (n + (↑(sumBy cY x.literals) : Int) + (↑(sumBy cY
 x.patterns) : Int))) (.f [] [Ob.arr true 5 (List.map syntaxC (seqM mkY cY x.literals n)), Ob.arr true 5 (List.map syntaxC (seqM mkY cY x.patterns (n + (↑(sumBy cY x.literals) :
 Int)))), Ob.arr true 5 (List.map syntaxC (seqM mkY cY x.templates (n + (↑(sumBy cY x.literals) : Int) + (↑(sumBy cY x.patterns) : Int))))] (AV.sv (li (n + (↑(sumBy cY x.literals)
 : Int) + (↑(sumBy cY x.patterns) : Int) + (↑(sumBy cY x.templates) : Int)))))))) (by
  dsimp only [teasy, P_c_markRules]
  with_reducible repeat' (first | apply And.intro | exact zR | (intro; skip) | apply c_markSyntaxS | apply c_markSyntaxSL)
  all_goals (try simp only [std, stdM, inj] at *)
  all_goals with_reducible repeat' apply And.intro
  all_goals (try (first | with_reducible apply c_markSyntaxS | with_reducible apply c_markSyntaxSL | (simp only [← List.map_append]; first | with_reducible apply c_markSyntaxS | with_reducible apply c_markSyntaxSL)))
  all_goals (try (first | exact z | ((first | refine rowGet ?_ | refine getC ?_ rfl); (first | omega | (simp only [std, stdM]; omega) | grind)) | (refine set_row ?_; (simp only [List.length_map, List.length_set, mkTo_len]; omega)) | (refine mkToRow ?_; (first | omega | (simp only [std, stdM]; omega) | grind)) | (refine mkTo_row ?_ rfl; (first | omega | (simp only [std, stdM]; omega) | grind)) | (refine mkTo_step ?_ ?_; (first | omega | (simp only [std, stdM]; omega) | grind); (first | grind [snocI, snocS, rowSnoc])) | grind [snocI, snocS, rowSnoc])))
end Go.Proofs.YtpnaoendfpaodaaGreat
end
section
namespace Go.Proofs.YtpnaoendfpaodaaGreat
open Go Go.Proofs.YtpnaoendfpaodaaGreat.Ab
set_option linter.unusedVariables false
set_option linter.unusedSimpArgs false
set_option maxHeartbeats 4000000
abbrev P_c_heldIntS (L : List Int) (n : Int) : Ct := ⟨99, [], [ll (L.map intC), li n], [], .sv (li (n + L.length))⟩
def lc_heldIntSLa (L : List Int) (n : Int) : Lp Nat := .mk 21 0 (fun x => [(0, ll (List.map intC L)), (1, hs x 1), (5, hs x 0)]) (fun x => []) (fun k => [.s (li (↑k : Int)), .s (li
 (n + (↑k : Int)))]) (fun k => k ≤ L.length ∧ L.length ≤ 9223372036854775807) (fun k => L.length - k) [.mk True (.exit 0) (fun x => [(1, hs x 0)]) (fun x => []) [.s (li (n +
 (↑L.length : Int)))], .mk False .ret (fun x => [(4, hs x 0)]) (fun x => []) [.s (li (-1 : Int))]]
theorem Sc_heldIntSLa (L : List Int) (n : Int) (h0 : 0 ≤ n) (h : n + (↑L.length : Int) ≤ 100000000000000) (hm : seqM mkI cOne L n = L) : Lp.Sem Tryz.prog (loopAt Tryz.f99 0)
 (lc_heldIntSLa L n) := lpOK (fun k => .z intC L (.i ((↑k : Int) < (↑(List.map intC L).length : Int)) (.x (↑k : Int) (List.map intC L) [cI (L.getD k 0)] (.i (L.getD k (0 : Int) ≠ n
 + (↑k : Int)) (.o 1 [] [.s (li (-1 : Int))]) (.r (n + (↑k : Int) + 1) (.r ((↑k : Int) + 1) (.g [] (k + 1) [.s (li ((↑k : Int) + 1)), .s (li (n + (↑k : Int) + 1))]))))) (.o 0 []
 [.s (li (n + (↑k : Int)))]))) (by
  intro k h; try dsimp only [teasy, nthW, lc_heldIntSLa] at h ⊢
  with_reducible repeat' (first | apply And.intro | exact zR | (intro; skip))
  all_goals (try simp only [std, stdM, inj] at *)
  all_goals with_reducible repeat' apply And.intro
  all_goals (try (first | exact z | ((first | refine rowGet ?_ | refine getC ?_ rfl); (first | omega | (simp only [std, stdM]; omega) | grind)) | (refine set_row ?_; (simp only [List.length_map, List.length_set, mkTo_len]; omega)) | (refine mkToRow ?_; (first | omega | (simp only [std, stdM]; omega) | grind)) | (refine mkTo_row ?_ rfl; (first | omega | (simp only [std, stdM]; omega) | grind)) | (refine mkTo_step ?_ ?_; (first | omega | (simp only [std, stdM]; omega) | grind); (first | grind [seqI_get hm, snocI, snocS, rowSnoc])) | grind [seqI_get hm, snocI, snocS, rowSnoc])))
theorem c_heldIntS (L : List Int) (n : Int) (h0 : 0 ≤ n) (h : n + L.length ≤ 100000000000000) (hm : seqM mkI cOne L n = L)  : P_c_heldIntS L n := fnOK Tryz.call99 Tryz.func99 (.l
 (lc_heldIntSLa L n) (Sc_heldIntSLa L n h0 h hm) [] [.s (li 0), .s (li n)] 0 (.t (.s (li (n + (↑L.length : Int)))) (.t (.s (li (-1 : Int))) .q))) (by
  dsimp only [teasy, P_c_heldIntS, nthW, lc_heldIntSLa]
  with_reducible repeat' (first | apply And.intro | exact zR | (intro; skip))
  all_goals (try simp only [std, stdM, inj] at *)
  all_goals with_reducible repeat' apply And.intro
  all_goals (try (first | exact z | ((first | refine rowGet ?_ | refine getC ?_ rfl); (first | omega | (simp only [std, stdM]; omega) | grind)) | (refine set_row ?_; (simp only [List.length_map, List.length_set, mkTo_len]; omega)) | (refine mkToRow ?_; (first | omega | (simp only [std, stdM]; omega) | grind)) | (refine mkTo_row ?_ rfl; (first | omega | (simp only [std, stdM]; omega) | grind)) | (refine mkTo_step ?_ ?_; (first | omega | (simp only [std, stdM]; omega) | grind); (first | grind [snocI, snocS, rowSnoc])) | grind [snocI, snocS, rowSnoc])))
abbrev P_c_heldSyntaxS (x : Syntax) (n : Int) : Ct := ⟨55, [], [ll (x.items.map syntaxC), li n], [], .sv (li (n + sumBy cY x.items))⟩
def lc_heldSyntaxS_sLa (x : Syntax) (n : Int) : Lp Nat := .mk 59 0 (fun x_1 => [(0, ll (List.map syntaxC x.items)), (1, hs x_1 1), (5, hs x_1 0)]) (fun x => []) (fun k => [.s (li
 (↑k : Int)), .s (li (n + (↑(sumBy cY (List.take k x.items)) : Int)))]) (fun k => k ≤ x.items.length ∧ x.items.length ≤ 9223372036854775807) (fun k => x.items.length - k) [.mk True
 (.exit 0) (fun x => [(1, hs x 0)]) (fun x => []) [.s (li (n + (↑(sumBy cY x.items) : Int)))], .mk False .ret (fun x => [(4, hs x 0)]) (fun x => []) [.s (li (-1 : Int))]]
theorem Sc_heldSyntaxS_sLa (x : Syntax) (n : Int) (h0 : 0 ≤ n) (h : n + (↑(sumBy cY x.items) : Int) ≤ 100000000000000) (hm : seqM mkY cY x.items n = x.items) (ih : ∀ (z : Syntax),
 z ∈ x.items → ∀ (n : Int), 0 ≤ n → n + (↑(sumBy cY z.items) : Int) ≤ 100000000000000 → seqM mkY cY z.items n = z.items → OK (P_c_heldSyntaxS z n)) : Lp.Sem Tryz.prog (loopAt
 Tryz.f55 0) (lc_heldSyntaxS_sLa x n) := lpOK (fun k => .z syntaxC x.items (.i ((↑k : Int) < (↑(List.map syntaxC x.items).length : Int)) (.x (↑k : Int) (List.map syntaxC x.items)
 (syntaxF (x.items.getD k default)) (.i ((x.items.getD k default).kind ≠ n + (↑(sumBy cY (List.take k x.items)) : Int)) (.o 1 [] [.s (li (-1 : Int))]) (.r (n + (↑(sumBy cY
 (List.take k x.items)) : Int) + 1) (.x (↑k : Int) (List.map syntaxC x.items) (syntaxF (x.items.getD k default)) (.i ((x.items.getD k default).number ≠ n + (↑(sumBy cY (List.take k
 x.items)) : Int) + 1) (.o 1 [] [.s (li (-1 : Int))]) (.r (n + (↑(sumBy cY (List.take k x.items)) : Int) + 1 + 1) (.w (.draw []) (.x (↑k : Int) (List.map syntaxC x.items) (syntaxF
 (x.items.getD k default)) (.d [.rd] (P_c_markText (n + (↑(sumBy cY (List.take k x.items)) : Int) + 1 + 1)) (.i ((x.items.getD k default).text.data.toList ≠ (mText (n + (↑(sumBy cY
 (List.take k x.items)) : Int) + 1 + 1)).data.toList) (.o 1 [] [.s (li (-1 : Int))]) (.r (n + (↑(sumBy cY (List.take k x.items)) : Int) + 1 + 1 + 1) (.x (↑k : Int) (List.map
 syntaxC x.items) (syntaxF (x.items.getD k default)) (.d [.rd, .rd] (P_c_heldIntS (x.items.getD k default).scopes (n + (↑(sumBy cY (List.take k x.items)) : Int) + 1 + 1 + 1)) (.i
 (n + (↑(sumBy cY (List.take k x.items)) : Int) + 1 + 1 + 1 + (↑(x.items.getD k default).scopes.length : Int) < 0) (.o 1 [] [.s (li (-1 : Int))]) (.x (↑k : Int) (List.map syntaxC
 x.items) (syntaxF (x.items.getD k default)) (.d [.rd, .rd] (P_c_heldSyntaxS (x.items.getD k default) (n + (↑(sumBy cY (List.take k x.items)) : Int) + 1 + 1 + 1 + (↑(x.items.getD k
 default).scopes.length : Int))) (.i (n + (↑(sumBy cY (List.take k x.items)) : Int) + 1 + 1 + 1 + (↑(x.items.getD k default).scopes.length : Int) + (↑(sumBy cY (x.items.getD k
 default).items) : Int) < 0) (.o 1 [] [.s (li (-1 : Int))]) (.r ((↑k : Int) + 1) (.g [] (k + 1) [.s (li ((↑k : Int) + 1)), .s (li (n + (↑(sumBy cY (List.take k x.items)) : Int) + 1
 + 1 + 1 + (↑(x.items.getD k default).scopes.length : Int) + (↑(sumBy cY (x.items.getD k default).items) : Int)))]))))))))))))))))))) (.o 0 [] [.s (li (n + (↑(sumBy cY (List.take k
 x.items)) : Int)))]))) (by
  intro k h; try dsimp only [teasy, nthW, lc_heldSyntaxS_sLa] at h ⊢
  have g0 := sumBy_takeLe cY x.items (k + 1)
  have g1 := fun hk : k < x.items.length => mkY_fix (seqM_get hm hk)
  with_reducible repeat' (first | apply And.intro | exact zR | exact ih | (intro; skip) | apply c_markText | apply c_heldIntS | apply ih)
  all_goals (try simp only [std, stdM, inj] at *)
  all_goals with_reducible repeat' apply And.intro
  all_goals (try (first | with_reducible apply c_markText | with_reducible apply c_heldIntS | with_reducible apply ih | (simp only [← List.map_append]; first | with_reducible apply c_markText | with_reducible apply c_heldIntS | with_reducible apply ih)))
  all_goals (try (first | exact z | ((first | refine rowGet ?_ | refine getC ?_ rfl); (first | omega | (simp only [std, stdM]; omega) | grind)) | (refine set_row ?_; (simp only [List.length_map, List.length_set, mkTo_len]; omega)) | (refine mkToRow ?_; (first | omega | (simp only [std, stdM]; omega) | grind)) | (refine mkTo_row ?_ rfl; (first | omega | (simp only [std, stdM]; omega) | grind)) | (refine mkTo_step ?_ ?_; (first | omega | (simp only [std, stdM]; omega) | grind); (first | grind [sumBy_step, getD_mem', cY_eq, snocI, snocS, rowSnoc])) | grind [sumBy_step, getD_mem', cY_eq, snocI, snocS, rowSnoc])))
theorem c_heldSyntaxS_s (x : Syntax) (n : Int) (h0 : 0 ≤ n) (h : n + sumBy cY x.items ≤ 100000000000000) (hm : seqM mkY cY x.items n = x.items) (ih : ∀ z ∈ x.items, ∀ (n : Int) (h0
 : 0 ≤ n) (h : n + sumBy cY z.items ≤ 100000000000000) (hm : seqM mkY cY z.items n = z.items), P_c_heldSyntaxS z n)  : P_c_heldSyntaxS x n := fnOK Tryz.call55 Tryz.func55 (.l
 (lc_heldSyntaxS_sLa x n) (Sc_heldSyntaxS_sLa x n h0 h hm ih) [] [.s (li 0), .s (li n)] 0 (.t (.s (li (n + (↑(sumBy cY x.items) : Int)))) (.t (.s (li (-1 : Int))) .q))) (by
  dsimp only [teasy, P_c_heldSyntaxS, nthW, lc_heldSyntaxS_sLa]
  have gl := cY_len x.items
  with_reducible repeat' (first | apply And.intro | exact zR | exact ih | (intro; skip) | apply c_markText | apply c_heldIntS)
  all_goals (try simp only [std, stdM, inj] at *)
  all_goals with_reducible repeat' apply And.intro
  all_goals (try (first | with_reducible apply c_markText | with_reducible apply c_heldIntS | with_reducible apply ih | (simp only [← List.map_append]; first | with_reducible apply c_markText | with_reducible apply c_heldIntS | with_reducible apply ih)))
  all_goals (try (first | exact z | ((first | refine rowGet ?_ | refine getC ?_ rfl); (first | omega | (simp only [std, stdM]; omega) | grind)) | (refine set_row ?_; (simp only [List.length_map, List.length_set, mkTo_len]; omega)) | (refine mkToRow ?_; (first | omega | (simp only [std, stdM]; omega) | grind)) | (refine mkTo_row ?_ rfl; (first | omega | (simp only [std, stdM]; omega) | grind)) | (refine mkTo_step ?_ ?_; (first | omega | (simp only [std, stdM]; omega) | grind); (first | grind [mkTo_all, snocI, snocS, rowSnoc])) | grind [mkTo_all, snocI, snocS, rowSnoc])))
theorem c_heldSyntaxS (x : Syntax) : ∀ (n : Int) (h0 : 0 ≤ n) (h : n + sumBy cY x.items ≤ 100000000000000) (hm : seqM mkY cY x.items n = x.items), P_c_heldSyntaxS x n := Syntax.ind (P := fun x => ∀ (n : Int) (h0 : 0 ≤ n) (h : n + sumBy cY x.items ≤ 100000000000000) (hm : seqM mkY cY x.items n = x.items), P_c_heldSyntaxS x n) (fun x ih n h0 h hm => c_heldSyntaxS_s x n h0 h hm ih) x
theorem c_heldSyntaxSL (L : List Syntax) (n : Int) (h0 : 0 ≤ n) (h : n + sumBy cY L ≤ 100000000000000) (hm : seqM mkY cY L n = L) : P_c_heldSyntaxS { (default : Syntax) with items := L } n := c_heldSyntaxS { (default : Syntax) with items := L } n h0 h hm
abbrev P_c_heldSyntax (x : Syntax) (n : Int) : Ct := ⟨50, [], [.agg [vI x.kind, vI x.number, vS x.text, vL (x.scopes.map intC), vL (x.items.map syntaxC)], li n], [], .sv (li (n + x.scopes.length + sumBy cY x.items))⟩
theorem c_heldSyntax (x : Syntax) (n : Int) (h0 : 0 ≤ n) (h : n + (x.scopes.length + sumBy cY x.items : Nat) ≤ 100000000000000) (hm0 : seqM mkI cOne x.scopes (n) = x.scopes) (hm1 :
 seqM mkY cY x.items (n + x.scopes.length) = x.items)  : P_c_heldSyntax x n := fnOK Tryz.call50 Tryz.func50 (.d [.rd, .rd] (P_c_heldIntS x.scopes n) (.i (n + (↑x.scopes.length : Int)
 < 0) (.s (li (-1 : Int))) (.d [.rd, .rd] (P_c_heldSyntaxS x (n + (↑x.scopes.length : Int))) (.i (n + (↑x.scopes.length : Int) + (↑(sumBy cY x.items) : Int) < 0) (.s (li (-1 :
 Int))) (.s (li (n + (↑x.scopes.length : Int) + (↑(sumBy cY x.items) : Int)))))))) (by
  dsimp only [teasy, P_c_heldSyntax]
  with_reducible repeat' (first | apply And.intro | exact zR | (intro; skip) | apply c_heldIntS | apply c_heldSyntaxS | apply c_heldSyntaxSL)
  all_goals (try simp only [std, stdM, inj] at *)
  all_goals with_reducible repeat' apply And.intro
  all_goals (try (first | with_reducible apply c_heldIntS | with_reducible apply c_heldSyntaxS | with_reducible apply c_heldSyntaxSL | (simp only [← List.map_append]; first | with_reducible apply c_heldIntS | with_reducible apply c_heldSyntaxS | with_reducible apply c_heldSyntaxSL)))
  all_goals (try (first | exact z | ((first | refine rowGet ?_ | refine getC ?_ rfl); (first | omega | (simp only [std, stdM]; omega) | grind)) | (refine set_row ?_; (simp only [List.length_map, List.length_set, mkTo_len]; omega)) | (refine mkToRow ?_; (first | omega | (simp only [std, stdM]; omega) | grind)) | (refine mkTo_row ?_ rfl; (first | omega | (simp only [std, stdM]; omega) | grind)) | (refine mkTo_step ?_ ?_; (first | omega | (simp only [std, stdM]; omega) | grind); (first | grind [snocI, snocS, rowSnoc])) | grind [snocI, snocS, rowSnoc])))
end Go.Proofs.YtpnaoendfpaodaaGreat
end
section
namespace Go.Proofs.YtpnaoendfpaodaaGreat
open Go Go.Proofs.YtpnaoendfpaodaaGreat.Ab
set_option linter.unusedVariables false
set_option linter.unusedSimpArgs false
set_option maxHeartbeats 4000000
abbrev P_c_szIntS (L : List Int) (left : Int) : Ct := ⟨61, [], [ll (L.map intC), li left], [], .sv (li (sz L.length left))⟩
theorem c_szIntS (L : List Int) (left : Int) (h0 : 0 ≤ left) (h : left ≤ 2147483647)  : P_c_szIntS L left := fnOK Tryz.call61 Tryz.func61 (.z intC L (.r (left - (↑(List.map intC
 L).length : Int)) (.i (left - (↑(List.map intC L).length : Int) < 0) (.s (li (-1 : Int))) (.s (li (left - (↑(List.map intC L).length : Int))))))) (by
  dsimp only [teasy, P_c_szIntS]
  with_reducible repeat' (first | apply And.intro | exact zR | (intro; skip))
  all_goals (try simp only [std, inj] at *)
  all_goals with_reducible repeat' apply And.intro
  all_goals (try (first | exact z | grind [sz, snocI, snocS, rowSnoc])))
abbrev P_c_szSyntaxS (L : List Syntax) (left : Int) : Ct := ⟨36, [], [ll (L.map syntaxC), li left], [], .sv (li (sz (L.length + sumBy wY L) left))⟩
abbrev P_c_szSyntax (x : Syntax) (left : Int) : Ct := ⟨12, [], [syntaxA x, li left], [], .sv (li (sz (wY x) left))⟩
def lc_szSyntaxSLa (L : List Syntax) (left : Int) : Lp (Nat × Int) := .mk 27 0 (fun x => [(0, ll (List.map syntaxC L)), (1, hs x 1), (5, hs x 0)]) (fun x => []) (fun k => [.s (li
 (↑k.fst : Int)), .s (li k.snd)]) (fun k => k.fst ≤ L.length ∧ L.length ≤ 9223372036854775807 ∧ 0 ≤ k.snd ∧ k.snd ≤ left ∧ sz (sumBy wY (List.drop k.fst L)) k.snd = sz (L.length +
 sumBy wY L) left) (fun k => L.length - k.fst) [.mk (0 ≤ sz (L.length + sumBy wY L) left) (.exit 0) (fun x => [(1, hs x 0)]) (fun x => []) [.s (li (sz (L.length + sumBy wY L)
 left))], .mk (sz (L.length + sumBy wY L) left = (-1 : Int)) .ret (fun x => [(4, hs x 0)]) (fun x => []) [.s (li (-1 : Int))]]
theorem Sc_szSyntaxSLa (L : List Syntax) (left : Int) (h0 : 0 ≤ left) (h : left ≤ 2147483647) (ih : ∀ (x : Syntax), x ∈ L → ∀ (left : Int), 0 ≤ left → left ≤ 2147483647 → OK
 (P_c_szSyntax x left)) : Lp.Sem Tryz.prog (loopAt Tryz.f36 0) (lc_szSyntaxSLa L left) := lpOK (fun k => .z syntaxC L (.i ((↑k.fst : Int) < (↑(List.map syntaxC L).length : Int))
 (.x (↑k.fst : Int) (List.map syntaxC L) (syntaxF (L.getD k.fst default)) (.d [.rd, .rd] (P_c_szSyntax (L.getD k.fst default) k.snd) (.i (sz (wY (L.getD k.fst default)) k.snd < 0)
 (.o 1 [] [.s (li (-1 : Int))]) (.r ((↑k.fst : Int) + 1) (.g [] (k.fst + 1, sz (wY (L.getD k.fst default)) k.snd) [.s (li ((↑k.fst : Int) + 1)), .s (li (sz (wY (L.getD k.fst
 default)) k.snd))]))))) (.o 0 [] [.s (li k.snd)]))) (by
  intro k h; try dsimp only [teasy, nthW, lc_szSyntaxSLa] at h ⊢
  obtain ⟨i, n⟩ := k
  simp only at *
  with_reducible repeat' (first | apply And.intro | exact zR | exact ih | (intro; skip) | apply ih)
  all_goals (try simp only [std, inj] at *)
  all_goals with_reducible repeat' apply And.intro
  all_goals (try (first | with_reducible apply ih | (simp only [← List.map_append]; first | with_reducible apply ih)))
  all_goals (try (first | exact z | grind [drop_get, sumBy, sz, getD_mem', snocI, snocS, rowSnoc])))
theorem c_szSyntaxS (L : List Syntax) (left : Int) (h0 : 0 ≤ left) (h : left ≤ 2147483647) (ih : ∀ x ∈ L, ∀ (left : Int) (h0 : 0 ≤ left) (h : left ≤ 2147483647), P_c_szSyntax x
 left)  : P_c_szSyntaxS L left := fnOK Tryz.call36 Tryz.func36 (.z syntaxC L (.r (left - (↑(List.map syntaxC L).length : Int)) (.i (left - (↑(List.map syntaxC L).length : Int) < 0)
 (.s (li (-1 : Int))) (.l (lc_szSyntaxSLa L left) (Sc_szSyntaxSLa L left h0 h ih) [] [.s (li 0), .s (li (left - (↑(List.map syntaxC L).length : Int)))] (0, left - (↑L.length :
 Int)) (.t (.s (li (sz (L.length + sumBy wY L) left))) (.t (.s (li (-1 : Int))) .q)))))) (by
  dsimp only [teasy, P_c_szSyntaxS, nthW, lc_szSyntaxSLa]
  with_reducible repeat' (first | apply And.intro | exact zR | exact ih | (intro; skip))
  all_goals (try simp only [std, inj] at *)
  all_goals with_reducible repeat' apply And.intro
  all_goals (try (first | with_reducible apply ih | (simp only [← List.map_append]; first | with_reducible apply ih)))
  all_goals (try (first | exact z | grind [sz, snocI, snocS, rowSnoc])))
theorem c_szSyntax_s (x : Syntax) (left : Int) (h0 : 0 ≤ left) (h : left ≤ 2147483647) (ih : ∀ z ∈ x.items, ∀ (left : Int) (h0 : 0 ≤ left) (h : left ≤ 2147483647), P_c_szSyntax z
 left)  : P_c_szSyntax x left := fnOK Tryz.call12 Tryz.func12 (.h (x.text.data.toList.length ≤ 9223372036854775807) (.r (left - (↑x.text.data.toList.length : Int)) (.i (left -
 (↑x.text.data.toList.length : Int) < 0) (.s (li (-1 : Int))) (.d [.rd, .rd] (P_c_szIntS x.scopes (left - (↑x.text.data.toList.length : Int))) (.i (sz x.scopes.length (left -
 (↑x.text.data.toList.length : Int)) < 0) (.s (li (-1 : Int))) (.d [.rd, .rd] (P_c_szSyntaxS x.items (sz x.scopes.length (left - (↑x.text.data.toList.length : Int)))) (.i (sz
 (x.items.length + sumBy wY x.items) (sz x.scopes.length (left - (↑x.text.data.toList.length : Int))) < 0) (.s (li (-1 : Int))) (.s (li (sz (x.items.length + sumBy wY x.items) (sz
 x.scopes.length (left - (↑x.text.data.toList.length : Int))))))))))))) (by
  dsimp only [teasy, P_c_szSyntax]
  with_reducible repeat' (first | apply And.intro | exact zR | exact ih | (intro; skip) | apply c_szIntS | apply c_szSyntaxS | apply ih)
  all_goals (try simp only [std, inj] at *)
  all_goals with_reducible repeat' apply And.intro
  all_goals (try (first | with_reducible apply c_szIntS | with_reducible apply c_szSyntaxS | with_reducible apply ih | (simp only [← List.map_append]; first | with_reducible apply c_szIntS | with_reducible apply c_szSyntaxS | with_reducible apply ih)))
  all_goals (try (first | exact z | grind [wY_eq, sz, wS, snocI, snocS, rowSnoc])))
theorem c_szSyntax (x : Syntax) : ∀ (left : Int) (h0 : 0 ≤ left) (h : left ≤ 2147483647), P_c_szSyntax x left := Syntax.ind (P := fun x => ∀ (left : Int) (h0 : 0 ≤ left) (h : left ≤ 2147483647), P_c_szSyntax x left) (fun x ih left h0 h => c_szSyntax_s x left h0 h ih) x
abbrev P_c_szBinding (x : Binding) (left : Int) : Ct := ⟨102, [], [bindingA x, li left], [], .sv (li (sz (wB x) left))⟩
theorem c_szBinding (x : Binding) (left : Int) (h0 : 0 ≤ left) (h : left ≤ 2147483647)  : P_c_szBinding x left := fnOK Tryz.call102 Tryz.func102 (.h (x.text.data.toList.length ≤
 9223372036854775807) (.r (left - (↑x.text.data.toList.length : Int)) (.i (left - (↑x.text.data.toList.length : Int) < 0) (.s (li (-1 : Int))) (.d [.rd, .rd] (P_c_szIntS x.scopes
 (left - (↑x.text.data.toList.length : Int))) (.i (sz x.scopes.length (left - (↑x.text.data.toList.length : Int)) < 0) (.s (li (-1 : Int))) (.s (li (sz x.scopes.length (left -
 (↑x.text.data.toList.length : Int)))))))))) (by
  dsimp only [teasy, P_c_szBinding]
  with_reducible repeat' (first | apply And.intro | exact zR | (intro; skip) | apply c_szIntS)
  all_goals (try simp only [std, inj] at *)
  all_goals with_reducible repeat' apply And.intro
  all_goals (try (first | with_reducible apply c_szIntS | (simp only [← List.map_append]; first | with_reducible apply c_szIntS)))
  all_goals (try (first | exact z | grind [wB_eq, sz, wS, snocI, snocS, rowSnoc])))
abbrev P_c_szBindingS (L : List Binding) (left : Int) : Ct := ⟨35, [], [ll (L.map bindingC), li left], [], .sv (li (sz (L.length + sumBy wB L) left))⟩
def lc_szBindingSLa (L : List Binding) (left : Int) : Lp (Nat × Int) := .mk 27 0 (fun x => [(0, ll (List.map bindingC L)), (1, hs x 1), (5, hs x 0)]) (fun x => []) (fun k => [.s
 (li (↑k.fst : Int)), .s (li k.snd)]) (fun k => k.fst ≤ L.length ∧ L.length ≤ 9223372036854775807 ∧ 0 ≤ k.snd ∧ k.snd ≤ left ∧ sz (sumBy wB (List.drop k.fst L)) k.snd = sz
 (L.length + sumBy wB L) left) (fun k => L.length - k.fst) [.mk (0 ≤ sz (L.length + sumBy wB L) left) (.exit 0) (fun x => [(1, hs x 0)]) (fun x => []) [.s (li (sz (L.length + sumBy
 wB L) left))], .mk (sz (L.length + sumBy wB L) left = (-1 : Int)) .ret (fun x => [(4, hs x 0)]) (fun x => []) [.s (li (-1 : Int))]]
theorem Sc_szBindingSLa (L : List Binding) (left : Int) (h0 : 0 ≤ left) (h : left ≤ 2147483647) : Lp.Sem Tryz.prog (loopAt Tryz.f35 0) (lc_szBindingSLa L left) := lpOK (fun k => .z
 bindingC L (.i ((↑k.fst : Int) < (↑(List.map bindingC L).length : Int)) (.x (↑k.fst : Int) (List.map bindingC L) (bindingF (L.getD k.fst default)) (.d [.rd, .rd] (P_c_szBinding
 (L.getD k.fst default) k.snd) (.i (sz (wB (L.getD k.fst default)) k.snd < 0) (.o 1 [] [.s (li (-1 : Int))]) (.r ((↑k.fst : Int) + 1) (.g [] (k.fst + 1, sz (wB (L.getD k.fst
 default)) k.snd) [.s (li ((↑k.fst : Int) + 1)), .s (li (sz (wB (L.getD k.fst default)) k.snd))]))))) (.o 0 [] [.s (li k.snd)]))) (by
  intro k h; try dsimp only [teasy, nthW, lc_szBindingSLa] at h ⊢
  obtain ⟨i, n⟩ := k
  simp only at *
  with_reducible repeat' (first | apply And.intro | exact zR | (intro; skip) | apply c_szBinding)
  all_goals (try simp only [std, inj] at *)
  all_goals with_reducible repeat' apply And.intro
  all_goals (try (first | with_reducible apply c_szBinding | (simp only [← List.map_append]; first | with_reducible apply c_szBinding)))
  all_goals (try (first | exact z | grind [drop_get, sumBy, sz, getD_mem', snocI, snocS, rowSnoc])))
theorem c_szBindingS (L : List Binding) (left : Int) (h0 : 0 ≤ left) (h : left ≤ 2147483647)  : P_c_szBindingS L left := fnOK Tryz.call35 Tryz.func35 (.z bindingC L (.r (left -
 (↑(List.map bindingC L).length : Int)) (.i (left - (↑(List.map bindingC L).length : Int) < 0) (.s (li (-1 : Int))) (.l (lc_szBindingSLa L left) (Sc_szBindingSLa L left h0 h) []
 [.s (li 0), .s (li (left - (↑(List.map bindingC L).length : Int)))] (0, left - (↑L.length : Int)) (.t (.s (li (sz (L.length + sumBy wB L) left))) (.t (.s (li (-1 : Int))) .q))))))
 (by
  dsimp only [teasy, P_c_szBindingS, nthW, lc_szBindingSLa]
  with_reducible repeat' (first | apply And.intro | exact zR | (intro; skip) | apply c_szBinding)
  all_goals (try simp only [std, inj] at *)
  all_goals with_reducible repeat' apply And.intro
  all_goals (try (first | with_reducible apply c_szBinding | (simp only [← List.map_append]; first | with_reducible apply c_szBinding)))
  all_goals (try (first | exact z | grind [sz, snocI, snocS, rowSnoc])))
abbrev P_c_szRules (x : Rules) (left : Int) : Ct := ⟨13, [], [rulesA x, li left], [], .sv (li (sz (wR x) left))⟩
theorem c_szRules (x : Rules) (left : Int) (h0 : 0 ≤ left) (h : left ≤ 2147483647)  : P_c_szRules x left := fnOK Tryz.call13 Tryz.func13 (.d [.rd, .rd] (P_c_szSyntaxS x.literals
 left) (.i (sz (x.literals.length + sumBy wY x.literals) left < 0) (.s (li (-1 : Int))) (.d [.rd, .rd] (P_c_szSyntaxS x.patterns (sz (x.literals.length + sumBy wY x.literals)
 left)) (.i (sz (x.patterns.length + sumBy wY x.patterns) (sz (x.literals.length + sumBy wY x.literals) left) < 0) (.s (li (-1 : Int))) (.d [.rd, .rd] (P_c_szSyntaxS x.templates
 (sz (x.patterns.length + sumBy wY x.patterns) (sz (x.literals.length + sumBy wY x.literals) left))) (.i (sz (x.templates.length + sumBy wY x.templates) (sz (x.patterns.length +
 sumBy wY x.patterns) (sz (x.literals.length + sumBy wY x.literals) left)) < 0) (.s (li (-1 : Int))) (.s (li (sz (x.templates.length + sumBy wY x.templates) (sz (x.patterns.length
 + sumBy wY x.patterns) (sz (x.literals.length + sumBy wY x.literals) left))))))))))) (by
  dsimp only [teasy, P_c_szRules]
  with_reducible repeat' (first | apply And.intro | exact zR | (intro; skip) | apply c_szSyntaxS | apply c_szSyntax)
  all_goals (try simp only [std, inj] at *)
  all_goals with_reducible repeat' apply And.intro
  all_goals (try (first | with_reducible apply c_szSyntaxS | with_reducible apply c_szSyntax | (simp only [← List.map_append]; first | with_reducible apply c_szSyntaxS | with_reducible apply c_szSyntax)))
  all_goals (try (first | exact z | grind [wR_eq, sz, wS, snocI, snocS, rowSnoc])))
end Go.Proofs.YtpnaoendfpaodaaGreat
end
section
namespace Go.Proofs.YtpnaoendfpaodaaGreat
open Go Go.Proofs.YtpnaoendfpaodaaGreat.Ab
set_option linter.unusedVariables false
set_option linter.unusedSimpArgs false
set_option maxHeartbeats 4000000
abbrev P_c_toIntS (L : List Int) : Ct := ⟨69, [], [ll (L.map intC)], [.arr true 1 (L.map intC)], .sv (.one (.ref 0))⟩
def lc_toIntSLa (L : List Int) : Lp Nat := .mk 22 0 (fun x => [(0, ll (List.map intC L)), (3, SV.one (AC.ref 0)), (4, hs x 0)]) (fun x => [ho x 1]) (fun k => [.s (li (↑k : Int)),
 .o (Ob.arr true 1 (List.map intC (fillTo L k)))]) (fun k => k ≤ L.length ∧ L.length ≤ 9223372036854775807) (fun k => L.length - k) [.mk True (.exit 0) (fun x => [(3, SV.one
 (AC.ref 0))]) (fun x => [ho x 0]) [.o (Ob.arr true 1 (List.map intC L))]]
theorem Sc_toIntSLa (L : List Int) (h : L.length ≤ 1048576) : Lp.Sem Tryz.prog (loopAt Tryz.f69 0) (lc_toIntSLa L) := lpOK (fun k => .z intC L (.i ((↑k : Int) < (↑(List.map intC
 L).length : Int)) (.x (↑k : Int) (List.map intC L) [cI (L.getD k 0)] (.p (0 ≤ (↑k : Int) ∧ (↑k : Int).toNat < (List.map intC (fillTo L k)).length) (.w (.cells (intC ((fillTo L
 k).getD (↑k : Int).toNat default))) (.p ((List.map intC (fillTo L k))[(↑k : Int).toNat]? = some [cI ((fillTo L k).getD (↑k : Int).toNat 0)]) (.r ((↑k : Int) + 1) (.g [0] (k + 1)
 [.s (li ((↑k : Int) + 1)), .o (Ob.arr true 1 ((List.map intC (fillTo L k)).set (↑k : Int).toNat [cI (L.getD k 0)]))])))))) (.o 0 [0] [.o (Ob.arr true 1 (List.map intC (fillTo L
 k)))]))) (by
  intro k h; try dsimp only [teasy, nthW, lc_toIntSLa] at h ⊢
  with_reducible repeat' (first | apply And.intro | exact zR | (intro; skip))
  all_goals (try simp only [std, inj] at *)
  all_goals with_reducible repeat' apply And.intro
  all_goals (try (first | exact z | exact zF | grind [fillTo_all, snocI, snocS, rowSnoc])))
theorem c_toIntS (L : List Int) (h : L.length ≤ 1048576)  : P_c_toIntS L := fnOK Tryz.call69 Tryz.func69 (.z intC L (.p (0 ≤ (↑(List.map intC L).length : Int) ∧ 8 * (↑(List.map intC
 L).length : Int).toNat ≤ 281474976710656) (.l (lc_toIntSLa L) (Sc_toIntSLa L h) [0] [.s (li 0), .o (Ob.arr true 1 (List.replicate (↑(List.map intC L).length : Int).toNat [cI 0]))]
 0 (.t (.f [0] [Ob.arr true 1 (List.map intC L)] (AV.sv (SV.one (AC.ref 0)))) .q)))) (by
  dsimp only [teasy, P_c_toIntS, nthW, lc_toIntSLa]
  with_reducible repeat' (first | apply And.intro | exact zR | (intro; skip))
  all_goals (try simp only [std, inj] at *)
  all_goals with_reducible repeat' apply And.intro
  all_goals (try (first | exact z | exact zF | grind [snocI, snocS, rowSnoc])))
abbrev P_c_toSyntaxS (L : List Syntax) : Ct := ⟨39, [], [ll (L.map syntaxC)], [.arr true 5 (L.map syntaxC)], .sv (.one (.ref 0))⟩
abbrev P_c_toSyntax (x : Syntax) : Ct := ⟨16, [], [syntaxA x], syntaxO x, .sv (syntaxR x 0)⟩
def lc_toSyntaxSLa (L : List Syntax) : Lp Nat := .mk 23 0 (fun x => [(0, ll (List.map syntaxC L)), (3, SV.one (AC.ref 0)), (4, hs x 0)]) (fun x => [ho x 1]) (fun k => [.s (li (↑k :
 Int)), .o (Ob.arr true 5 (List.map syntaxC (fillTo L k)))]) (fun k => k ≤ L.length ∧ L.length ≤ 9223372036854775807) (fun k => L.length - k) [.mk True (.exit 0) (fun x => [(3,
 SV.one (AC.ref 0))]) (fun x => [ho x 0]) [.o (Ob.arr true 5 (List.map syntaxC L))]]
theorem Sc_toSyntaxSLa (L : List Syntax) (h : L.length + sumBy wY L ≤ 1048576) (ih : ∀ (x : Syntax), x ∈ L → wY x ≤ 1048576 → OK (P_c_toSyntax x)) : Lp.Sem Tryz.prog (loopAt
 Tryz.f39 0) (lc_toSyntaxSLa L) := lpOK (fun k => .z syntaxC L (.i ((↑k : Int) < (↑(List.map syntaxC L).length : Int)) (.x (↑k : Int) (List.map syntaxC L) (syntaxF (L.getD k
 default)) (.d [.rd] (P_c_toSyntax (L.getD k default)) (.p (0 ≤ (↑k : Int) ∧ (↑k : Int).toNat < (List.map syntaxC (fillTo L k)).length) (.w (.cells (syntaxF ((fillTo L k).getD (↑k
 : Int).toNat default))) (.p ((List.map syntaxC (fillTo L k))[(↑k : Int).toNat]? = some (syntaxF ((fillTo L k).getD (↑k : Int).toNat default))) (.r ((↑k : Int) + 1) (.g [0] (k + 1)
 [.s (li ((↑k : Int) + 1)), .o (Ob.arr true 5 ((List.map syntaxC (fillTo L k)).set (↑k : Int).toNat (syntaxF (L.getD k default))))]))))))) (.o 0 [0] [.o (Ob.arr true 5 (List.map
 syntaxC (fillTo L k)))]))) (by
  intro k h; try dsimp only [teasy, nthW, lc_toSyntaxSLa] at h ⊢
  with_reducible repeat' (first | apply And.intro | exact zR | exact ih | (intro; skip) | apply ih)
  all_goals (try simp only [std, inj] at *)
  all_goals with_reducible repeat' apply And.intro
  all_goals (try (first | with_reducible apply ih | (simp only [← List.map_append]; first | with_reducible apply ih)))
  all_goals (try (first | exact z | exact zF | grind [fillTo_all, getD_mem', sumBy_mem, snocI, snocS, rowSnoc])))
theorem c_toSyntaxS (L : List Syntax) (h : L.length + sumBy wY L ≤ 1048576) (ih : ∀ x ∈ L, ∀ (h : wY x ≤ 1048576), P_c_toSyntax x)  : P_c_toSyntaxS L := fnOK Tryz.call39 Tryz.func39
 (.z syntaxC L (.p (0 ≤ (↑(List.map syntaxC L).length : Int) ∧ 80 * (↑(List.map syntaxC L).length : Int).toNat ≤ 281474976710656) (.l (lc_toSyntaxSLa L) (Sc_toSyntaxSLa L h ih) [0]
 [.s (li 0), .o (Ob.arr true 5 (List.replicate (↑(List.map syntaxC L).length : Int).toNat [cI 0, cI 0, cS (ByteArray.mk #[]), Cell.list [], Cell.list []]))] 0 (.t (.f [0] [Ob.arr
 true 5 (List.map syntaxC L)] (AV.sv (SV.one (AC.ref 0)))) .q)))) (by
  dsimp only [teasy, P_c_toSyntaxS, nthW, lc_toSyntaxSLa]
  with_reducible repeat' (first | apply And.intro | exact zR | exact ih | (intro; skip))
  all_goals (try simp only [std, inj] at *)
  all_goals with_reducible repeat' apply And.intro
  all_goals (try (first | with_reducible apply ih | (simp only [← List.map_append]; first | with_reducible apply ih)))
  all_goals (try (first | exact z | exact zF | grind [snocI, snocS, rowSnoc])))
theorem c_toSyntax_s (x : Syntax) (h : wY x ≤ 1048576) (ih : ∀ z ∈ x.items, ∀ (h : wY z ≤ 1048576), P_c_toSyntax z)  : P_c_toSyntax x := fnOK Tryz.call16 Tryz.func16 (.d [.rd]
 (P_c_toIntS x.scopes) (.d [.rd] (P_c_toSyntaxS x.items) (.f [3, 4] [Ob.arr true 1 (List.map intC x.scopes), Ob.arr true 5 (List.map syntaxC x.items)] (AV.sv (SV.agg [vI x.kind, vI
 x.number, vS x.text, AC.ref 0, AC.ref 1]))))) (by
  dsimp only [teasy, P_c_toSyntax]
  with_reducible repeat' (first | apply And.intro | exact zR | exact ih | (intro; skip) | apply c_toIntS | apply c_toSyntaxS | apply ih)
  all_goals (try simp only [std, inj] at *)
  all_goals with_reducible repeat' apply And.intro
  all_goals (try (first | with_reducible apply c_toIntS | with_reducible apply c_toSyntaxS | with_reducible apply ih | (simp only [← List.map_append]; first | with_reducible apply c_toIntS | with_reducible apply c_toSyntaxS | with_reducible apply ih)))
  all_goals (try (first | exact z | exact zF | grind [wY_eq, wS, snocI, snocS, rowSnoc])))
theorem c_toSyntax (x : Syntax) : ∀ (h : wY x ≤ 1048576), P_c_toSyntax x := Syntax.ind (P := fun x => ∀ (h : wY x ≤ 1048576), P_c_toSyntax x) (fun x ih h => c_toSyntax_s x h ih) x
abbrev P_c_toBinding (x : Binding) : Ct := ⟨107, [], [bindingA x], bindingO x, .sv (bindingR x 0)⟩
theorem c_toBinding (x : Binding) (h : wB x ≤ 1048576)  : P_c_toBinding x := fnOK Tryz.call107 Tryz.func107 (.d [.rd] (P_c_toIntS x.scopes) (.f [3] [Ob.arr true 1 (List.map intC
 x.scopes)] (AV.sv (SV.agg [vS x.text, AC.ref 0, vI x.kind, vI x.number])))) (by
  dsimp only [teasy, P_c_toBinding]
  with_reducible repeat' (first | apply And.intro | exact zR | (intro; skip) | apply c_toIntS)
  all_goals (try simp only [std, inj] at *)
  all_goals with_reducible repeat' apply And.intro
  all_goals (try (first | with_reducible apply c_toIntS | (simp only [← List.map_append]; first | with_reducible apply c_toIntS)))
  all_goals (try (first | exact z | exact zF | grind [wB_eq, wS, snocI, snocS, rowSnoc])))
abbrev P_c_toBindingS (L : List Binding) : Ct := ⟨38, [], [ll (L.map bindingC)], [.arr true 4 (L.map bindingC)], .sv (.one (.ref 0))⟩
def lc_toBindingSLa (L : List Binding) : Lp Nat := .mk 23 0 (fun x => [(0, ll (List.map bindingC L)), (3, SV.one (AC.ref 0)), (4, hs x 0)]) (fun x => [ho x 1]) (fun k => [.s (li
 (↑k : Int)), .o (Ob.arr true 4 (List.map bindingC (fillTo L k)))]) (fun k => k ≤ L.length ∧ L.length ≤ 9223372036854775807) (fun k => L.length - k) [.mk True (.exit 0) (fun x =>
 [(3, SV.one (AC.ref 0))]) (fun x => [ho x 0]) [.o (Ob.arr true 4 (List.map bindingC L))]]
theorem Sc_toBindingSLa (L : List Binding) (h : L.length + sumBy wB L ≤ 1048576) : Lp.Sem Tryz.prog (loopAt Tryz.f38 0) (lc_toBindingSLa L) := lpOK (fun k => .z bindingC L (.i ((↑k
 : Int) < (↑(List.map bindingC L).length : Int)) (.x (↑k : Int) (List.map bindingC L) (bindingF (L.getD k default)) (.d [.rd] (P_c_toBinding (L.getD k default)) (.p (0 ≤ (↑k : Int)
 ∧ (↑k : Int).toNat < (List.map bindingC (fillTo L k)).length) (.w (.cells (bindingF ((fillTo L k).getD (↑k : Int).toNat default))) (.p ((List.map bindingC (fillTo L k))[(↑k :
 Int).toNat]? = some (bindingF ((fillTo L k).getD (↑k : Int).toNat default))) (.r ((↑k : Int) + 1) (.g [0] (k + 1) [.s (li ((↑k : Int) + 1)), .o (Ob.arr true 4 ((List.map bindingC
 (fillTo L k)).set (↑k : Int).toNat (bindingF (L.getD k default))))]))))))) (.o 0 [0] [.o (Ob.arr true 4 (List.map bindingC (fillTo L k)))]))) (by
  intro k h; try dsimp only [teasy, nthW, lc_toBindingSLa] at h ⊢
  with_reducible repeat' (first | apply And.intro | exact zR | (intro; skip) | apply c_toBinding)
  all_goals (try simp only [std, inj] at *)
  all_goals with_reducible repeat' apply And.intro
  all_goals (try (first | with_reducible apply c_toBinding | (simp only [← List.map_append]; first | with_reducible apply c_toBinding)))
  all_goals (try (first | exact z | exact zF | grind [fillTo_all, getD_mem', sumBy_mem, snocI, snocS, rowSnoc])))
theorem c_toBindingS (L : List Binding) (h : L.length + sumBy wB L ≤ 1048576)  : P_c_toBindingS L := fnOK Tryz.call38 Tryz.func38 (.z bindingC L (.p (0 ≤ (↑(List.map bindingC
 L).length : Int) ∧ 56 * (↑(List.map bindingC L).length : Int).toNat ≤ 281474976710656) (.l (lc_toBindingSLa L) (Sc_toBindingSLa L h) [0] [.s (li 0), .o (Ob.arr true 4
 (List.replicate (↑(List.map bindingC L).length : Int).toNat [cS (ByteArray.mk #[]), Cell.list [], cI 0, cI 0]))] 0 (.t (.f [0] [Ob.arr true 4 (List.map bindingC L)] (AV.sv (SV.one
 (AC.ref 0)))) .q)))) (by
  dsimp only [teasy, P_c_toBindingS, nthW, lc_toBindingSLa]
  with_reducible repeat' (first | apply And.intro | exact zR | (intro; skip) | apply c_toBinding)
  all_goals (try simp only [std, inj] at *)
  all_goals with_reducible repeat' apply And.intro
  all_goals (try (first | with_reducible apply c_toBinding | (simp only [← List.map_append]; first | with_reducible apply c_toBinding)))
  all_goals (try (first | exact z | exact zF | grind [snocI, snocS, rowSnoc])))
abbrev P_c_toRules (x : Rules) : Ct := ⟨17, [], [rulesA x], rulesO x, .sv (rulesR x 0)⟩
theorem c_toRules (x : Rules) (h : wR x ≤ 1048576)  : P_c_toRules x := fnOK Tryz.call17 Tryz.func17 (.d [.rd] (P_c_toSyntaxS x.literals) (.d [.rd] (P_c_toSyntaxS x.patterns) (.d
 [.rd] (P_c_toSyntaxS x.templates) (.f [3, 4, 5] [Ob.arr true 5 (List.map syntaxC x.literals), Ob.arr true 5 (List.map syntaxC x.patterns), Ob.arr true 5 (List.map syntaxC
 x.templates)] (AV.sv (SV.agg [AC.ref 0, AC.ref 1, AC.ref 2])))))) (by
  dsimp only [teasy, P_c_toRules]
  with_reducible repeat' (first | apply And.intro | exact zR | (intro; skip) | apply c_toSyntaxS | apply c_toSyntax)
  all_goals (try simp only [std, inj] at *)
  all_goals with_reducible repeat' apply And.intro
  all_goals (try (first | with_reducible apply c_toSyntaxS | with_reducible apply c_toSyntax | (simp only [← List.map_append]; first | with_reducible apply c_toSyntaxS | with_reducible apply c_toSyntax)))
  all_goals (try (first | exact z | exact zF | grind [wR_eq, wS, snocI, snocS, rowSnoc])))
end Go.Proofs.YtpnaoendfpaodaaGreat
end
section
namespace Go.Proofs.YtpnaoendfpaodaaGreat
open Go Go.Proofs.YtpnaoendfpaodaaGreat.Ab
set_option linter.unusedVariables false
set_option linter.unusedSimpArgs false
set_option maxHeartbeats 4000000
abbrev P_c_eqIntS (A : List Int) (B : List Int) : Ct := ⟨78, [], [ll (A.map intC), ll (B.map intC)], [], .sv (lb (decide (A = B)))⟩
def lc_eqIntSLa (A : List Int) (B : List Int) : Lp Nat := .mk 26 0 (fun x => [(0, ll (List.map intC A)), (1, ll (List.map intC B)), (5, hs x 0)]) (fun x => []) (fun k => [.s (li
 (↑k : Int))]) (fun k => k ≤ A.length ∧ A.length ≤ 9223372036854775807 ∧ A.length = B.length ∧ List.take k A = List.take k B) (fun k => A.length - k) [.mk (A = B) (.exit 0) (fun x
 => []) (fun x => []) [], .mk (A ≠ B) .ret (fun x => [(4, hs x 0)]) (fun x => []) [.s (lb false)]]
theorem Sc_eqIntSLa (A : List Int) (B : List Int) : Lp.Sem Tryz.prog (loopAt Tryz.f78 0) (lc_eqIntSLa A B) := lpOK (fun k => .z intC A (.i ((↑k : Int) < (↑(List.map intC A).length
 : Int)) (.w (.draw []) (.x (↑k : Int) (List.map intC A) [cI (A.getD k 0)] (.x (↑k : Int) (List.map intC B) [cI (B.getD k 0)] (.i (A.getD k (0 : Int) ≠ B.getD k 0) (.o 1 [] [.s (lb
 false)]) (.r ((↑k : Int) + 1) (.g [] (k + 1) [.s (li ((↑k : Int) + 1))])))))) (.o 0 [] []))) (by
  intro k h; try dsimp only [teasy, nthW, lc_eqIntSLa] at h ⊢
  with_reducible repeat' (first | apply And.intro | exact zR | (intro; skip))
  all_goals (try simp only [std, inj] at *)
  all_goals with_reducible repeat' apply And.intro
  all_goals (try (first | exact z | grind [take_eq, snocI, snocS, rowSnoc])))
theorem c_eqIntS (A B : List Int)  : P_c_eqIntS A B := fnOK Tryz.call78 Tryz.func78 (.z intC A (.z intC B (.i ((↑(List.map intC A).length : Int) ≠ (↑(List.map intC B).length : Int))
 (.s (lb false)) (.l (lc_eqIntSLa A B) (Sc_eqIntSLa A B) [] [.s (li 0)] 0 (.t (.s (lb true)) (.t (.s (lb false)) .q)))))) (by
  dsimp only [teasy, P_c_eqIntS, nthW, lc_eqIntSLa]
  with_reducible repeat' (first | apply And.intro | exact zR | (intro; skip))
  all_goals (try simp only [std, inj] at *)
  all_goals with_reducible repeat' apply And.intro
  all_goals (try (first | exact z | grind [snocI, snocS, rowSnoc])))
abbrev P_c_eqSyntaxS (A : List Syntax) (B : List Syntax) : Ct := ⟨43, [], [ll (A.map syntaxC), ll (B.map syntaxC)], [], .sv (lb (decide (A = B)))⟩
abbrev P_c_eqSyntax (x : Syntax) (y : Syntax) : Ct := ⟨20, [], [syntaxA x, syntaxA y], [], .sv (lb (decide (x = y)))⟩
def lc_eqSyntaxSLa (A : List Syntax) (B : List Syntax) : Lp Nat := .mk 27 0 (fun x => [(0, ll (List.map syntaxC A)), (1, ll (List.map syntaxC B)), (5, hs x 0)]) (fun x => []) (fun
 k => [.s (li (↑k : Int))]) (fun k => k ≤ A.length ∧ A.length ≤ 9223372036854775807 ∧ A.length = B.length ∧ List.take k A = List.take k B) (fun k => A.length - k) [.mk (A = B)
 (.exit 0) (fun x => []) (fun x => []) [], .mk (A ≠ B) .ret (fun x => [(4, hs x 0)]) (fun x => []) [.s (lb false)]]
theorem Sc_eqSyntaxSLa (A : List Syntax) (B : List Syntax) (ih : ∀ (x : Syntax), x ∈ A → ∀ (y : Syntax), OK (P_c_eqSyntax x y)) : Lp.Sem Tryz.prog (loopAt Tryz.f43 0)
 (lc_eqSyntaxSLa A B) := lpOK (fun k => .z syntaxC A (.i ((↑k : Int) < (↑(List.map syntaxC A).length : Int)) (.w (.draw []) (.x (↑k : Int) (List.map syntaxC A) (syntaxF (A.getD k
 default)) (.x (↑k : Int) (List.map syntaxC B) (syntaxF (B.getD k default)) (.d [.rd, .rd] (P_c_eqSyntax (A.getD k default) (B.getD k default)) (.b (!decide (A.getD k default =
 B.getD k default)) (.o 1 [] [.s (lb false)]) (.r ((↑k : Int) + 1) (.g [] (k + 1) [.s (li ((↑k : Int) + 1))]))))))) (.o 0 [] []))) (by
  intro k h; try dsimp only [teasy, nthW, lc_eqSyntaxSLa] at h ⊢
  with_reducible repeat' (first | apply And.intro | exact zR | exact ih | (intro; skip) | apply ih)
  all_goals (try simp only [std, inj] at *)
  all_goals with_reducible repeat' apply And.intro
  all_goals (try (first | with_reducible apply ih | (simp only [← List.map_append]; first | with_reducible apply ih)))
  all_goals (try (first | exact z | grind [take_eq, getD_mem', snocI, snocS, rowSnoc])))
theorem c_eqSyntaxS (A B : List Syntax) (ih : ∀ x ∈ A, ∀ (y : Syntax), P_c_eqSyntax x y)  : P_c_eqSyntaxS A B := fnOK Tryz.call43 Tryz.func43 (.z syntaxC A (.z syntaxC B (.i
 ((↑(List.map syntaxC A).length : Int) ≠ (↑(List.map syntaxC B).length : Int)) (.s (lb false)) (.l (lc_eqSyntaxSLa A B) (Sc_eqSyntaxSLa A B ih) [] [.s (li 0)] 0 (.t (.s (lb true))
 (.t (.s (lb false)) .q)))))) (by
  dsimp only [teasy, P_c_eqSyntaxS, nthW, lc_eqSyntaxSLa]
  with_reducible repeat' (first | apply And.intro | exact zR | exact ih | (intro; skip))
  all_goals (try simp only [std, inj] at *)
  all_goals with_reducible repeat' apply And.intro
  all_goals (try (first | with_reducible apply ih | (simp only [← List.map_append]; first | with_reducible apply ih)))
  all_goals (try (first | exact z | grind [snocI, snocS, rowSnoc])))
theorem c_eqSyntax_s (x y : Syntax) (ih : ∀ z ∈ x.items, ∀ (y : Syntax), P_c_eqSyntax z y)  : P_c_eqSyntax x y := fnOK Tryz.call20 Tryz.func20 (.i (x.kind ≠ y.kind) (.s (lb false))
 (.i (x.number ≠ y.number) (.s (lb false)) (.i (x.text.data.toList ≠ y.text.data.toList) (.s (lb false)) (.c [.rd, .rd] (c_eqIntS x.scopes y.scopes) (.b (!decide (x.scopes =
 y.scopes)) (.s (lb false)) (.d [.rd, .rd] (P_c_eqSyntaxS x.items y.items) (.b (!decide (x.items = y.items)) (.s (lb false)) (.s (lb true))))))))) (by
  dsimp only [teasy, P_c_eqSyntax]
  simp only [syntaxExt]
  with_reducible repeat' (first | apply And.intro | exact zR | exact ih | (intro; skip) | apply c_eqIntS | apply c_eqSyntaxS | apply ih)
  all_goals (try simp only [std, inj] at *)
  all_goals with_reducible repeat' apply And.intro
  all_goals (try (first | with_reducible apply c_eqIntS | with_reducible apply c_eqSyntaxS | with_reducible apply ih | (simp only [← List.map_append]; first | with_reducible apply c_eqIntS | with_reducible apply c_eqSyntaxS | with_reducible apply ih)))
  all_goals (try (first | exact z | grind [bytes_ext, snocI, snocS, rowSnoc])))
theorem c_eqSyntax (x : Syntax) : ∀ (y : Syntax), P_c_eqSyntax x y := Syntax.ind (P := fun x => ∀ (y : Syntax), P_c_eqSyntax x y) (fun x ih y => c_eqSyntax_s x y ih) x
abbrev P_c_eqBinding (x : Binding) (y : Binding) : Ct := ⟨113, [], [bindingA x, bindingA y], [], .sv (lb (decide (x = y)))⟩
theorem c_eqBinding (x y : Binding)  : P_c_eqBinding x y := fnOK Tryz.call113 Tryz.func113 (.i (x.text.data.toList ≠ y.text.data.toList) (.s (lb false)) (.c [.rd, .rd] (c_eqIntS
 x.scopes y.scopes) (.b (!decide (x.scopes = y.scopes)) (.s (lb false)) (.i (x.kind ≠ y.kind) (.s (lb false)) (.i (x.number ≠ y.number) (.s (lb false)) (.s (lb true))))))) (by
  dsimp only [teasy, P_c_eqBinding]
  simp only [bindingExt]
  with_reducible repeat' (first | apply And.intro | exact zR | (intro; skip))
  all_goals (try simp only [std, inj] at *)
  all_goals with_reducible repeat' apply And.intro
  all_goals (try (first | exact z | grind [bytes_ext, snocI, snocS, rowSnoc])))
abbrev P_c_eqBindingS (A : List Binding) (B : List Binding) : Ct := ⟨42, [], [ll (A.map bindingC), ll (B.map bindingC)], [], .sv (lb (decide (A = B)))⟩
def lc_eqBindingSLa (A : List Binding) (B : List Binding) : Lp Nat := .mk 27 0 (fun x => [(0, ll (List.map bindingC A)), (1, ll (List.map bindingC B)), (5, hs x 0)]) (fun x => [])
 (fun k => [.s (li (↑k : Int))]) (fun k => k ≤ A.length ∧ A.length ≤ 9223372036854775807 ∧ A.length = B.length ∧ List.take k A = List.take k B) (fun k => A.length - k) [.mk (A = B)
 (.exit 0) (fun x => []) (fun x => []) [], .mk (A ≠ B) .ret (fun x => [(4, hs x 0)]) (fun x => []) [.s (lb false)]]
theorem Sc_eqBindingSLa (A : List Binding) (B : List Binding) : Lp.Sem Tryz.prog (loopAt Tryz.f42 0) (lc_eqBindingSLa A B) := lpOK (fun k => .z bindingC A (.i ((↑k : Int) <
 (↑(List.map bindingC A).length : Int)) (.w (.draw []) (.x (↑k : Int) (List.map bindingC A) (bindingF (A.getD k default)) (.x (↑k : Int) (List.map bindingC B) (bindingF (B.getD k
 default)) (.c [.rd, .rd] (c_eqBinding (A.getD k default) (B.getD k default)) (.b (!decide (A.getD k default = B.getD k default)) (.o 1 [] [.s (lb false)]) (.r ((↑k : Int) + 1) (.g
 [] (k + 1) [.s (li ((↑k : Int) + 1))]))))))) (.o 0 [] []))) (by
  intro k h; try dsimp only [teasy, nthW, lc_eqBindingSLa] at h ⊢
  with_reducible repeat' (first | apply And.intro | exact zR | (intro; skip))
  all_goals (try simp only [std, inj] at *)
  all_goals with_reducible repeat' apply And.intro
  all_goals (try (first | exact z | grind [take_eq, getD_mem', snocI, snocS, rowSnoc])))
theorem c_eqBindingS (A B : List Binding)  : P_c_eqBindingS A B := fnOK Tryz.call42 Tryz.func42 (.z bindingC A (.z bindingC B (.i ((↑(List.map bindingC A).length : Int) ≠ (↑(List.map
 bindingC B).length : Int)) (.s (lb false)) (.l (lc_eqBindingSLa A B) (Sc_eqBindingSLa A B) [] [.s (li 0)] 0 (.t (.s (lb true)) (.t (.s (lb false)) .q)))))) (by
  dsimp only [teasy, P_c_eqBindingS, nthW, lc_eqBindingSLa]
  with_reducible repeat' (first | apply And.intro | exact zR | (intro; skip))
  all_goals (try simp only [std, inj] at *)
  all_goals with_reducible repeat' apply And.intro
  all_goals (try (first | exact z | grind [snocI, snocS, rowSnoc])))
abbrev P_c_eqRules (x : Rules) (y : Rules) : Ct := ⟨21, [], [rulesA x, rulesA y], [], .sv (lb (decide (x = y)))⟩
theorem c_eqRules (x y : Rules)  : P_c_eqRules x y := fnOK Tryz.call21 Tryz.func21 (.d [.rd, .rd] (P_c_eqSyntaxS x.literals y.literals) (.b (!decide (x.literals = y.literals)) (.s
 (lb false)) (.d [.rd, .rd] (P_c_eqSyntaxS x.patterns y.patterns) (.b (!decide (x.patterns = y.patterns)) (.s (lb false)) (.d [.rd, .rd] (P_c_eqSyntaxS x.templates y.templates) (.b
 (!decide (x.templates = y.templates)) (.s (lb false)) (.s (lb true)))))))) (by
  dsimp only [teasy, P_c_eqRules]
  simp only [rulesExt]
  with_reducible repeat' (first | apply And.intro | exact zR | (intro; skip) | apply c_eqSyntaxS | apply c_eqSyntax)
  all_goals (try simp only [std, inj] at *)
  all_goals with_reducible repeat' apply And.intro
  all_goals (try (first | with_reducible apply c_eqSyntaxS | with_reducible apply c_eqSyntax | (simp only [← List.map_append]; first | with_reducible apply c_eqSyntaxS | with_reducible apply c_eqSyntax)))
  all_goals (try (first | exact z | grind [bytes_ext, snocI, snocS, rowSnoc])))
end Go.Proofs.YtpnaoendfpaodaaGreat
end
section
namespace Go.Proofs.YtpnaoendfpaodaaGreat
open Go Go.Proofs.YtpnaoendfpaodaaGreat.Ab
set_option linter.unusedVariables false
set_option linter.unusedSimpArgs false
set_option maxHeartbeats 4000000
theorem okScN_ge (L : List Int) : ∀ k, okScN L k = true → k = 0 ∨ ((k : Int) ≤ L.getD (k - 1) default ∧ L.getD (k - 1) default ≤ 99999)
  | 0, _ => .inl rfl
  | k + 1, h => by
    simp only [okScN, Bool.and_eq_true, Bool.or_eq_true, decide_eq_true_eq] at h
    have ih := okScN_ge L k h.1.1
    right
    rw [Nat.add_sub_cancel]
    rcases ih with rfl | ih
    · exact ⟨by omega, h.1.2.2⟩
    · rcases h.2 with h2 | h2
      · subst h2; exact ⟨by omega, h.1.2.2⟩
      · exact ⟨by omega, h.1.2.2⟩
theorem okSc_len {L : List Int} (h : okSc L = true) : L.length ≤ 99999 := by
  rcases okScN_ge L L.length h with h | h <;> omega
theorem okY_cYa : ∀ s : Syntax, okY s = true → cY s ≤ 100002 * sizeY s := by
  refine Syntax.ind fun s ih h => ?_
  rw [okY_eq, Bool.and_eq_true, List.all_eq_true] at h
  have h1 : s.scopes.length ≤ 99999 := by
    have := h.2
    simp only [nodY0, Bool.and_eq_true] at this
    exact okSc_len this.1.2
  have h2 : ∀ L : List Syntax, (∀ x ∈ L, cY x ≤ 100002 * sizeY x) → sumBy cY L ≤ 100002 * sumBy sizeY L := by
    intro L
    induction L with
    | nil => intro _; exact Nat.le_refl _
    | cons x r ihr =>
      intro hL
      have a := hL x List.mem_cons_self
      have b := ihr fun y hy => hL y (List.mem_cons_of_mem _ hy)
      simp only [sumBy]; omega
  have h3 := h2 s.items fun x hx => ih x hx (h.1 x hx)
  rw [cY_eq, sizeY_eq]; omega
theorem insY_ca (t : Syntax) (C : List Capture) : cY (insY t C) ≤ 200004000 := by
  unfold insY; split
  · rename_i h
    simp only [insB, Bool.and_eq_true] at h
    have h1 := h.2
    simp only [isSyn, Bool.and_eq_true, decide_eq_true_eq] at h1
    have := okY_cYa _ h1.2
    omega
  · show cY zY ≤ _
    have : cY zY = 3 := rfl
    omega
theorem apr_c (B : List Binding) (r : Rules) (f : Syntax) : cY (aprY B r f) ≤ 200004000 := by
  have h0 : cY zY ≤ 200004000 := by
    have : cY zY = 3 := rfl
    omega
  unfold aprY apY
  split
  · split
    · exact insY_ca _ _
    · exact h0
  · exact h0
abbrev P_c_LApp (B : List Binding) (r : Rules) (f : Syntax) : Ct := ⟨6, [], [ll (B.map bindingC), rulesA r, syntaxA f], [], .sv (lb true)⟩
theorem c_LApp (B : List Binding) (r : Rules) (f : Syntax)  : P_c_LApp B r f := fnOK Tryz.call6 Tryz.func6 (.d [.rd, .rd] (P_c_szBindingS B 1048576) (.i (sz (B.length + sumBy wB B)
 (1048576 : Int) < 0) (.s (lb true)) (.d [.rd, .rd] (P_c_szRules r (sz (B.length + sumBy wB B) 1048576)) (.i (sz (wR r) (sz (B.length + sumBy wB B) 1048576) < 0) (.s (lb true)) (.d
 [.rd, .rd] (P_c_szSyntax f (sz (wR r) (sz (B.length + sumBy wB B) 1048576))) (.i (sz (wY f) (sz (wR r) (sz (B.length + sumBy wB B) 1048576)) < 0) (.s (lb true)) (.w (.draw [(11,
 [34])]) (.d [.rd] (P_c_toBindingS B) (.d [.rd] (P_c_toRules r) (.d [.rd] (P_c_toSyntax f) (.d [.rd, .rd, .rd] (P_c_sAppR B r f) (.d [.rd] (P_c_toBindingS B) (.d [.rd] (P_c_toRules
 r) (.d [.rd] (P_c_toSyntax f) (.d [.rd, .rd, .rd] (P_c_iAppR B r f) (.c [.rd, .rd] (c_eqSyntax (aprY B r f) (aprY B r f)) (.b (!decide (aprY B r f = aprY B r f)) (.y true (.s (lb
 false))) (.i (aprB B r f ≠ aprB B r f) (.s (lb false)) (.d [.rd] (P_c_toBindingS B) (.c [.rd, .rd] (c_eqBindingS B B) (.b (!decide (B = B)) (.s (lb false)) (.w (.draw []) (.d
 [.rd] (P_c_toRules r) (.c [.rd, .rd] (c_eqRules r r) (.b (!decide (r = r)) (.s (lb false)) (.w (.draw []) (.d [.rd] (P_c_toSyntax f) (.c [.rd, .rd] (c_eqSyntax f f) (.b (!decide
 (f = f)) (.s (lb false)) (.d [.own true 4, .rd] (P_c_markBindingS B 1) (.d [.agg [some (true, 5), some (true, 5), some (true, 5)], .rd] (P_c_markRules r (1 + (↑(sumBy cB B) :
 Int))) (.d [.agg [none, none, none, some (true, 1), some (true, 5)], .rd] (P_c_markSyntax f (1 + (↑(sumBy cB B) : Int) + (↑(sumBy cY r.literals) : Int) + (↑(sumBy cY r.patterns) :
 Int) + (↑(sumBy cY r.templates) : Int))) (.y false (.c [.rd, .rd] (c_eqSyntax (aprY B r f) (aprY B r f)) (.b (!decide (aprY B r f = aprY B r f)) (.y true (.s (lb false))) (.i
 (aprB B r f ≠ aprB B r f) (.s (lb false)) (.d [.agg [none, none, none, some (true, 1), some (true, 5)], .rd] (P_c_markSyntax (aprY B r f) 1) (.d [.rd, .rd] (P_c_heldSyntax
 (Syntax.mk (aprY B r f).kind (aprY B r f).number (aprY B r f).text (seqM mkI cOne (aprY B r f).scopes 1) (seqM mkY cY (aprY B r f).items (1 + (↑(aprY B r f).scopes.length :
 Int)))) 1) (.y false (.i (1 + (↑(seqM mkI cOne (aprY B r f).scopes 1).length : Int) + (↑(sumBy cY (seqM mkY cY (aprY B r f).items (1 + (↑(aprY B r f).scopes.length : Int)))) :
 Int) ≠ 1 + (↑(aprY B r f).scopes.length : Int) + (↑(sumBy cY (aprY B r f).items) : Int)) (.s (lb false)) (.w (.draw [(11, [84])]) (.d [.rd] (P_c_toBindingS B) (.d [.rd]
 (P_c_toRules r) (.d [.rd] (P_c_toSyntax f) (.d [.rd, .rd, .rd] (P_c_iAppR B r f) (.c [.rd, .rd] (c_eqSyntax (aprY B r f) (aprY B r f)) (.b (!decide (aprY B r f = aprY B r f)) (.y
 true (.s (lb false))) (.i (aprB B r f ≠ aprB B r f) (.s (lb false)) (.d [.rd, .rd] (P_c_heldSyntax (Syntax.mk (aprY B r f).kind (aprY B r f).number (aprY B r f).text (seqM mkI
 cOne (aprY B r f).scopes 1) (seqM mkY cY (aprY B r f).items (1 + (↑(aprY B r f).scopes.length : Int)))) 1) (.y false (.i (1 + (↑(seqM mkI cOne (aprY B r f).scopes 1).length : Int)
 + (↑(sumBy cY (seqM mkY cY (aprY B r f).items (1 + (↑(aprY B r f).scopes.length : Int)))) : Int) ≠ 1 + (↑(aprY B r f).scopes.length : Int) + (↑(sumBy cY (aprY B r f).items) :
 Int)) (.s (lb false)) (.s (lb true))))))))))))))))))))))))))))))))))))))))))))))))))))) (by
  dsimp only [teasy, P_c_LApp]
  have b1 := sumBy_le16 B fun x _ => cB_le x
  have b2 := cR_le r
  have b3 := cR_eq r
  have b4 := cY_le f
  have b5 := cY_eq f
  have b6 := apr_c B r f
  have b7 := cY_eq (aprY B r f)
  with_reducible repeat' (first | apply And.intro | exact zR | (intro; skip) | apply c_szBindingS | apply c_szRules | apply c_szSyntax | apply c_toBindingS | apply c_toRules | apply c_toSyntax | apply c_sAppR | apply c_iAppR | apply c_markBindingS | apply c_markRules | apply c_markSyntax | apply c_heldSyntax)
  all_goals (try simp only [std, stdM, inj] at *)
  all_goals with_reducible repeat' apply And.intro
  all_goals (try (first | with_reducible apply c_szBindingS | with_reducible apply c_szRules | with_reducible apply c_szSyntax | with_reducible apply c_toBindingS | with_reducible apply c_toRules | with_reducible apply c_toSyntax | with_reducible apply c_sAppR | with_reducible apply c_iAppR | with_reducible apply c_markBindingS | with_reducible apply c_markRules | with_reducible apply c_markSyntax | with_reducible apply c_heldSyntax | (simp only [← List.map_append]; first | with_reducible apply c_szBindingS | with_reducible apply c_szRules | with_reducible apply c_szSyntax | with_reducible apply c_toBindingS | with_reducible apply c_toRules | with_reducible apply c_toSyntax | with_reducible apply c_sAppR | with_reducible apply c_iAppR | with_reducible apply c_markBindingS | with_reducible apply c_markRules | with_reducible apply c_markSyntax | with_reducible apply c_heldSyntax)))
  all_goals (try (first | exact z | ((first | refine rowGet ?_ | refine getC ?_ rfl); (first | omega | (simp only [std, stdM]; omega) | grind)) | (refine set_row ?_; (simp only [List.length_map, List.length_set, mkTo_len]; omega)) | (refine mkToRow ?_; (first | omega | (simp only [std, stdM]; omega) | grind)) | (refine mkTo_row ?_ rfl; (first | omega | (simp only [std, stdM]; omega) | grind)) | (refine mkTo_step ?_ ?_; (first | omega | (simp only [std, stdM]; omega) | grind); (first | grind [sz, seqM_idem, seqM_len, sum_seqM, snocI, snocS, rowSnoc])) | grind [sz, seqM_idem, seqM_len, sum_seqM, snocI, snocS, rowSnoc])))
end Go.Proofs.YtpnaoendfpaodaaGreat
end
section
namespace Go.Proofs.YtpnaoendfpaodaaGreat.fnExactApplyRules
open Go Go.ChangeShapes Go.WideShapes Go.ChangeAt Go.RowKit Go.Proofs.YtpnaoendfpaodaaGreat.Ab
set_option linter.unusedVariables false
theorem own : ownKnob Tryz.prog.godebug = none := by kernel_rfl
theorem laid : laidOutB Tryz.prog = true := by kernel_rfl
theorem rowed : mapsRowed Tryz.prog = true := by kernel_rfl
theorem sized : ((List.range Tryz.prog.types.size).all fun t => match Tryz.prog.underlying t with | some (.slice e) => decide (0 < Tryz.prog.cellsOf e) | _ => true) = true := by kernel_rfl
set_option maxRecDepth 100000 in
theorem lifted (os : Os) (started : os.Started) (H : Type) (enc : TypeId × Value → H) :
    ReturnsInHanded {} Tryz.checked os 6 .any (Rows.fnExactApplyRulesSpec.pre6 enc Tryz.prog Tryz.f6 Rows.fnExactApplyRulesRow.domain false) (Rows.fnExactApplyRulesSpec.post enc Tryz.prog Tryz.f6 false true false false) := by
  refine returnsInHanded_of_change (C := Tryz.checked) own started (by kernel_rfl) Tryz.func6
    (ChangeSpec.witness6 (enc := enc) (C := Tryz.checked) false ⟨#[], #[.slice none 0 0, .agg #[.slice none 0 0, .slice none 0 0, .slice none 0 0], .agg #[.int .i64 0, .int .i64 0, .string ⟨#[]⟩, .slice none 0 0, .slice none 0 0]], []⟩ 12 (by kernel_rfl) (by kernel_rfl) (by kernel_rfl) (by kernel_rfl)) ?_
  intro W base args ds gs before hval0 hW hcnd _
  have hval : ∀ (j : Nat) t v, Tryz.f6.params[j]? = some t → args[j]? = some v → Value.okWide Tryz.prog W .any base t v := hval0
  have hW' := hW
  obtain ⟨p, q, hA0, hV, rfl, hfz, hnd⟩ := hW
  obtain ⟨rfl, rfl⟩ := trodVars_none hV
  have hA : DataW.TrodAll enc Tryz.prog W 0 (fun _ => true) true Tryz.f6.params.toList args.toList ds p := hA0
  rw [Tryz.params6] at hA hval
  have hA2 := hA
  clear hA0 hval0
  obtain ⟨v0, vs0, d0, ds0, p0, q0, hargs0, rfl, rfl, h0, r0⟩ := trodAll_cons hA
  obtain ⟨v1, vs1, d1, ds1, p1, q1, hargs1, rfl, rfl, h1, r1⟩ := trodAll_cons r0
  obtain ⟨v2, vs2, d2, ds2, p2, q2, hargs2, rfl, rfl, h2, r2⟩ := trodAll_cons r1
  obtain ⟨rfl, rfl, rfl⟩ := trodAll_nil r2
  obtain rfl : args = #[v0, v1, v2] := by cases args; simp_all
  obtain ⟨a0, c0⟩ := (let ⟨fuel, hf⟩ := h0; rd_slice (C := bindingC) Tryz.underlying22 (by rw [show Tryz.prog.cellsOf 148 = 4 from by kernel_rfl]; decide) (fun a => by rw [bindingC_eq]; kernel_rfl) (fun m hm cs x h => by obtain ⟨a, ha⟩ := rd_binding m cs x h; exact ⟨a, by rw [bindingC_eq]; exact ha⟩) hf)
  have s0 : SVRel W (allI W) (obOf []) (ll (a0.map bindingC)) v0 := one_rel (by obtain ⟨_, _, _, rfl⟩ := okWide_slice Tryz.underlying22 (hval 0 22 v0 rfl rfl); rfl) c0
  obtain ⟨a1, c1⟩ := (let ⟨fuel, hf⟩ := h1; rd_rules fuel _ _ hf)
  have s1 : SVRel W (allI W) (obOf []) (rulesA a1) v1 := agg_rel (let ⟨cs, h, _⟩ := okWide_struct Tryz.underlying31 (hval 1 31 v1 rfl rfl); ⟨cs, h⟩) c1
  obtain ⟨a2, c2⟩ := (let ⟨fuel, hf⟩ := h2; rd_syntax fuel _ _ hf)
  have s2 : SVRel W (allI W) (obOf []) (syntaxA a2) v2 := agg_rel (let ⟨cs, h, _⟩ := okWide_struct Tryz.underlying29 (hval 2 29 v2 rfl rfl); ⟨cs, h⟩) c2
  refine (CallOK.kept (w := W) (vals := #[v0, v1, v2]) (c_LApp a0 a1 a2) ⟨s0, s1, s2, trivial⟩).mono fun e W' ⟨he, hg, _⟩ => ?_
  subst he
  exact ⟨_, rfl, post_of_kept (pv := []) hW' (fun _ _ _ => (trodAll_cons_mk (shut_bool Tryz.underlying4 _) trodAll_mk0))
    (fun sp hsp => trodAll_kept laid rowed sized hg (by decide +kernel) hA2 fun y hy => hsp y (by simpa using hy)) (fun _ _ => rfl) rfl
    hg (ok_one (by kernel_rfl) rfl (okWide_bool_mk Tryz.underlying4 _))⟩
set_option maxRecDepth 100000 in
set_option maxHeartbeats 0 in
theorem facts : joinedFacts Tryz.pinned.checked.prog 6 Tryz.f6 Rows.fnExactApplyRulesSpec Rows.fnExactApplyRulesRow = true := by
  delta joinedFacts
  with_reducible repeat' apply and_i
  all_goals (first | with_reducible exact enters | (rw [makes]; kernel_rfl) | (rw [lifts]; kernel_rfl) | decide +kernel)
theorem over : Rows.fnExactApplyRulesRow.holds Tryz.pinned (OpenSpec.ofChange Rows.fnExactApplyRulesSpec) :=
  OpenClaim.holds_of_wide 6 Tryz.f6 rfl rfl rfl rfl rfl rfl rfl ⟨rfl, rfl, rfl, rfl, rfl⟩ rfl rfl rfl rfl rfl (by kernel_rfl) Tryz.func6 facts
    (of_decide_eq_true (by kernel_rfl)) (by unfold Func.isWrapper; first | (rw [if_pos (by decide +kernel)]; kernel_rfl) | (rw [if_neg (by decide +kernel)]; exact ⟨rfl, rfl⟩))
    (fun os started H enc _ => lifted os started H enc)
theorem proved : Rows.FnExactApplyRulesSaid :=
  over
end Go.Proofs.YtpnaoendfpaodaaGreat.fnExactApplyRules
end
