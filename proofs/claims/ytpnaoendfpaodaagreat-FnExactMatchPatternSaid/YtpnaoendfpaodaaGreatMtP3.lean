/- The program's MatchPattern returns what the reference's returns, for all arguments. No condition. -/
import Derived.Test.YtpnaoendfpaodaaGreatMtP2
section
namespace Go.Proofs.YtpnaoendfpaodaaGreat
open Go Go.Proofs.YtpnaoendfpaodaaGreat.Ab
set_option linter.unusedVariables false
set_option linter.unusedSimpArgs false
set_option maxHeartbeats 4000000
abbrev P_c_heldIntS (L : List Int) (n : Int) : Ct := ⟨99, [], [ll (L.map intC), li n], [], .sv (li (n + L.length))⟩
def lc_heldIntSLa (L : List Int) (n : Int) : Lp Nat := .mk 21 0 (fun x => [(0, ll (List.map intC L)), (1, hs x 1), (5, hs x 0)]) (fun x => []) (fun k => [.s (li (↑k : Int)), .s (li
 (n + (↑k : Int)))]) (fun k => k ≤ L.length ∧ L.length ≤ 9223372036854775807) (fun k => L.length - k) [.mk True (.exit 0) (fun x => [(1, hs x 0)]) (fun x => []) [.s (li (n +
 (↑L.length : Int)))], .mk False .ret (fun x => [(4, hs x 0)]) (fun x => []) [.s (li (-1 : Int))]]
theorem Sc_heldIntSLa (L : List Int) (n : Int) (h0 : 0 ≤ n) (h : n + (↑L.length : Int) ≤ 100000000000000) (hm : seqM mkI cOne L n = L) : Lp.Sem Tryz.prog (loopAt Tryz.f99 0)
 (lc_heldIntSLa L n) := lpOK (fun k => .z intC L (.i ((↑k : Int) < (↑(List.map intC L).length : Int)) (.x (↑k : Int) (List.map intC L) [cI (L.getD k 0)] (.i (L.getD k (0 : Int) ≠ n
 + (↑k : Int)) (.o 1 [] [.s (li (-1 : Int))]) (.r (n + (↑k : Int) + 1) (.r ((↑k : Int) + 1) (.g [] (k + 1) [.s (li ((↑k : Int) + 1)), .s (li (n + (↑k : Int) + 1))]))))) (.o 0 []
 [.s (li (n + (↑k : Int)))]))) (by
  intro k h; try dsimp only [teasy, nthW, lc_heldIntSLa] at h ⊢
  with_reducible repeat' (first | apply And.intro | exact zR | (intro; skip))
  all_goals (try simp only [std, stdM, inj] at *)
  all_goals with_reducible repeat' apply And.intro
  all_goals (try (first | exact z | ((first | refine rowGet ?_ | refine getC ?_ rfl); (first | omega | (simp only [std, stdM]; omega) | grind)) | (refine set_row ?_; (simp only [List.length_map, List.length_set, mkTo_len]; omega)) | (refine mkToRow ?_; (first | omega | (simp only [std, stdM]; omega) | grind)) | (refine mkTo_row ?_ rfl; (first | omega | (simp only [std, stdM]; omega) | grind)) | (refine mkTo_step ?_ ?_; (first | omega | (simp only [std, stdM]; omega) | grind); (first | grind [seqI_get hm, snocI, snocS, rowSnoc])) | grind [seqI_get hm, snocI, snocS, rowSnoc])))
theorem c_heldIntS (L : List Int) (n : Int) (h0 : 0 ≤ n) (h : n + L.length ≤ 100000000000000) (hm : seqM mkI cOne L n = L)  : P_c_heldIntS L n := fnOK Tryz.call99 Tryz.func99 (.l
 (lc_heldIntSLa L n) (Sc_heldIntSLa L n h0 h hm) [] [.s (li 0), .s (li n)] 0 (.t (.s (li (n + (↑L.length : Int)))) (.t (.s (li (-1 : Int))) .q))) (by
  dsimp only [teasy, P_c_heldIntS, nthW, lc_heldIntSLa]
  with_reducible repeat' (first | apply And.intro | exact zR | (intro; skip))
  all_goals (try simp only [std, stdM, inj] at *)
  all_goals with_reducible repeat' apply And.intro
  all_goals (try (first | exact z | ((first | refine rowGet ?_ | refine getC ?_ rfl); (first | omega | (simp only [std, stdM]; omega) | grind)) | (refine set_row ?_; (simp only [List.length_map, List.length_set, mkTo_len]; omega)) | (refine mkToRow ?_; (first | omega | (simp only [std, stdM]; omega) | grind)) | (refine mkTo_row ?_ rfl; (first | omega | (simp only [std, stdM]; omega) | grind)) | (refine mkTo_step ?_ ?_; (first | omega | (simp only [std, stdM]; omega) | grind); (first | grind [snocI, snocS, rowSnoc])) | grind [snocI, snocS, rowSnoc])))
abbrev P_c_heldSyntaxS (x : Syntax) (n : Int) : Ct := ⟨55, [], [ll (x.items.map syntaxC), li n], [], .sv (li (n + sumBy cY x.items))⟩
def lc_heldSyntaxS_sLa (x : Syntax) (n : Int) : Lp Nat := .mk 59 0 (fun x_1 => [(0, ll (List.map syntaxC x.items)), (1, hs x_1 1), (5, hs x_1 0)]) (fun x => []) (fun k => [.s (li
 (↑k : Int)), .s (li (n + (↑(sumBy cY (List.take k x.items)) : Int)))]) (fun k => k ≤ x.items.length ∧ x.items.length ≤ 9223372036854775807) (fun k => x.items.length - k) [.mk True
 (.exit 0) (fun x => [(1, hs x 0)]) (fun x => []) [.s (li (n + (↑(sumBy cY x.items) : Int)))], .mk False .ret (fun x => [(4, hs x 0)]) (fun x => []) [.s (li (-1 : Int))]]
theorem Sc_heldSyntaxS_sLa (x : Syntax) (n : Int) (h0 : 0 ≤ n) (h : n + (↑(sumBy cY x.items) : Int) ≤ 100000000000000) (hm : seqM mkY cY x.items n = x.items) (ih : ∀ (z : Syntax),
 z ∈ x.items → ∀ (n : Int), 0 ≤ n → n + (↑(sumBy cY z.items) : Int) ≤ 100000000000000 → seqM mkY cY z.items n = z.items → OK (P_c_heldSyntaxS z n)) : Lp.Sem Tryz.prog (loopAt
 Tryz.f55 0) (lc_heldSyntaxS_sLa x n) := lpOK (fun k => .z syntaxC x.items (.i ((↑k : Int) < (↑(List.map syntaxC x.items).length : Int)) (.x (↑k : Int) (List.map syntaxC x.items)
 (syntaxF (x.items.getD k default)) (.i ((x.items.getD k default).kind ≠ n + (↑(sumBy cY (List.take k x.items)) : Int)) (.o 1 [] [.s (li (-1 : Int))]) (.r (n + (↑(sumBy cY
 (List.take k x.items)) : Int) + 1) (.x (↑k : Int) (List.map syntaxC x.items) (syntaxF (x.items.getD k default)) (.i ((x.items.getD k default).number ≠ n + (↑(sumBy cY (List.take k
 x.items)) : Int) + 1) (.o 1 [] [.s (li (-1 : Int))]) (.r (n + (↑(sumBy cY (List.take k x.items)) : Int) + 1 + 1) (.w (.draw []) (.x (↑k : Int) (List.map syntaxC x.items) (syntaxF
 (x.items.getD k default)) (.d [.rd] (P_c_markText (n + (↑(sumBy cY (List.take k x.items)) : Int) + 1 + 1)) (.i ((x.items.getD k default).text.data.toList ≠ (mText (n + (↑(sumBy cY
 (List.take k x.items)) : Int) + 1 + 1)).data.toList) (.o 1 [] [.s (li (-1 : Int))]) (.r (n + (↑(sumBy cY (List.take k x.items)) : Int) + 1 + 1 + 1) (.x (↑k : Int) (List.map
 syntaxC x.items) (syntaxF (x.items.getD k default)) (.d [.rd, .rd] (P_c_heldIntS (x.items.getD k default).scopes (n + (↑(sumBy cY (List.take k x.items)) : Int) + 1 + 1 + 1)) (.i
 (n + (↑(sumBy cY (List.take k x.items)) : Int) + 1 + 1 + 1 + (↑(x.items.getD k default).scopes.length : Int) < 0) (.o 1 [] [.s (li (-1 : Int))]) (.x (↑k : Int) (List.map syntaxC
 x.items) (syntaxF (x.items.getD k default)) (.d [.rd, .rd] (P_c_heldSyntaxS (x.items.getD k default) (n + (↑(sumBy cY (List.take k x.items)) : Int) + 1 + 1 + 1 + (↑(x.items.getD k
 default).scopes.length : Int))) (.i (n + (↑(sumBy cY (List.take k x.items)) : Int) + 1 + 1 + 1 + (↑(x.items.getD k default).scopes.length : Int) + (↑(sumBy cY (x.items.getD k
 default).items) : Int) < 0) (.o 1 [] [.s (li (-1 : Int))]) (.r ((↑k : Int) + 1) (.g [] (k + 1) [.s (li ((↑k : Int) + 1)), .s (li (n + (↑(sumBy cY (List.take k x.items)) : Int) + 1
 + 1 + 1 + (↑(x.items.getD k default).scopes.length : Int) + (↑(sumBy cY (x.items.getD k default).items) : Int)))]))))))))))))))))))) (.o 0 [] [.s (li (n + (↑(sumBy cY (List.take k
 x.items)) : Int)))]))) (by
  intro k h; try dsimp only [teasy, nthW, lc_heldSyntaxS_sLa] at h ⊢
  have g0 := sumBy_takeLe cY x.items (k + 1)
  have g1 := fun hk : k < x.items.length => mkY_fix (seqM_get hm hk)
  with_reducible repeat' (first | apply And.intro | exact zR | exact ih | (intro; skip) | apply c_markText | apply c_heldIntS | apply ih)
  all_goals (try simp only [std, stdM, inj] at *)
  all_goals with_reducible repeat' apply And.intro
  all_goals (try (first | with_reducible apply c_markText | with_reducible apply c_heldIntS | with_reducible apply ih | (simp only [← List.map_append]; first | with_reducible apply c_markText | with_reducible apply c_heldIntS | with_reducible apply ih)))
  all_goals (try (first | exact z | ((first | refine rowGet ?_ | refine getC ?_ rfl); (first | omega | (simp only [std, stdM]; omega) | grind)) | (refine set_row ?_; (simp only [List.length_map, List.length_set, mkTo_len]; omega)) | (refine mkToRow ?_; (first | omega | (simp only [std, stdM]; omega) | grind)) | (refine mkTo_row ?_ rfl; (first | omega | (simp only [std, stdM]; omega) | grind)) | (refine mkTo_step ?_ ?_; (first | omega | (simp only [std, stdM]; omega) | grind); (first | grind [sumBy_step, getD_mem', cY_eq, snocI, snocS, rowSnoc])) | grind [sumBy_step, getD_mem', cY_eq, snocI, snocS, rowSnoc])))
theorem c_heldSyntaxS_s (x : Syntax) (n : Int) (h0 : 0 ≤ n) (h : n + sumBy cY x.items ≤ 100000000000000) (hm : seqM mkY cY x.items n = x.items) (ih : ∀ z ∈ x.items, ∀ (n : Int) (h0
 : 0 ≤ n) (h : n + sumBy cY z.items ≤ 100000000000000) (hm : seqM mkY cY z.items n = z.items), P_c_heldSyntaxS z n)  : P_c_heldSyntaxS x n := fnOK Tryz.call55 Tryz.func55 (.l
 (lc_heldSyntaxS_sLa x n) (Sc_heldSyntaxS_sLa x n h0 h hm ih) [] [.s (li 0), .s (li n)] 0 (.t (.s (li (n + (↑(sumBy cY x.items) : Int)))) (.t (.s (li (-1 : Int))) .q))) (by
  dsimp only [teasy, P_c_heldSyntaxS, nthW, lc_heldSyntaxS_sLa]
  have gl := cY_len x.items
  with_reducible repeat' (first | apply And.intro | exact zR | exact ih | (intro; skip) | apply c_markText | apply c_heldIntS)
  all_goals (try simp only [std, stdM, inj] at *)
  all_goals with_reducible repeat' apply And.intro
  all_goals (try (first | with_reducible apply c_markText | with_reducible apply c_heldIntS | with_reducible apply ih | (simp only [← List.map_append]; first | with_reducible apply c_markText | with_reducible apply c_heldIntS | with_reducible apply ih)))
  all_goals (try (first | exact z | ((first | refine rowGet ?_ | refine getC ?_ rfl); (first | omega | (simp only [std, stdM]; omega) | grind)) | (refine set_row ?_; (simp only [List.length_map, List.length_set, mkTo_len]; omega)) | (refine mkToRow ?_; (first | omega | (simp only [std, stdM]; omega) | grind)) | (refine mkTo_row ?_ rfl; (first | omega | (simp only [std, stdM]; omega) | grind)) | (refine mkTo_step ?_ ?_; (first | omega | (simp only [std, stdM]; omega) | grind); (first | grind [mkTo_all, snocI, snocS, rowSnoc])) | grind [mkTo_all, snocI, snocS, rowSnoc])))
theorem c_heldSyntaxS (x : Syntax) : ∀ (n : Int) (h0 : 0 ≤ n) (h : n + sumBy cY x.items ≤ 100000000000000) (hm : seqM mkY cY x.items n = x.items), P_c_heldSyntaxS x n := Syntax.ind (P := fun x => ∀ (n : Int) (h0 : 0 ≤ n) (h : n + sumBy cY x.items ≤ 100000000000000) (hm : seqM mkY cY x.items n = x.items), P_c_heldSyntaxS x n) (fun x ih n h0 h hm => c_heldSyntaxS_s x n h0 h hm ih) x
theorem c_heldSyntaxSL (L : List Syntax) (n : Int) (h0 : 0 ≤ n) (h : n + sumBy cY L ≤ 100000000000000) (hm : seqM mkY cY L n = L) : P_c_heldSyntaxS { (default : Syntax) with items := L } n := c_heldSyntaxS { (default : Syntax) with items := L } n h0 h hm
abbrev P_c_heldCaptureS (x : Capture) (n : Int) : Ct := ⟨47, [], [ll (x.each.map captureC), li n], [], .sv (li (n + sumBy cP x.each))⟩
def lc_heldCaptureS_sLa (x : Capture) (n : Int) : Lp Nat := .mk 133 0 (fun x_1 => [(0, ll (List.map captureC x.each)), (1, hs x_1 1), (5, hs x_1 0)]) (fun x => []) (fun k => [.s
 (li (↑k : Int)), .s (li (n + (↑(sumBy cP (List.take k x.each)) : Int)))]) (fun k => k ≤ x.each.length ∧ x.each.length ≤ 9223372036854775807) (fun k => x.each.length - k) [.mk True
 (.exit 0) (fun x => [(1, hs x 0)]) (fun x => []) [.s (li (n + (↑(sumBy cP x.each) : Int)))], .mk False .ret (fun x => [(4, hs x 0)]) (fun x => []) [.s (li (-1 : Int))]]
theorem Sc_heldCaptureS_sLa (x : Capture) (n : Int) (h0 : 0 ≤ n) (h : n + (↑(sumBy cP x.each) : Int) ≤ 100000000000000) (hm : seqM mkP cP x.each n = x.each) (ih : ∀ (z : Capture),
 z ∈ x.each → ∀ (n : Int), 0 ≤ n → n + (↑(sumBy cP z.each) : Int) ≤ 100000000000000 → seqM mkP cP z.each n = z.each → OK (P_c_heldCaptureS z n)) : Lp.Sem Tryz.prog (loopAt Tryz.f47
 0) (lc_heldCaptureS_sLa x n) := lpOK (fun k => let v1 := (↑(sumBy cP (List.take k x.each)) : Int); let v2 := (x.each.getD k default); let v3 := (List.map captureC x.each); let v4
 := (↑(x.each.getD k default).name.scopes.length : Int); let v5 := (↑(sumBy cY v2.name.items) : Int); let v6 := (↑(x.each.getD k default).form.scopes.length : Int); let v7 :=
 (↑(sumBy cY v2.form.items) : Int); let v8 := (n + v1 + 1 + 1 + 1 + v4 + v5 + 1 + 1 + 1); let v9 := (n + v1 + 1 + 1 + 1 + v4 + v5 + 1 + 1 + 1 + 1); .z captureC x.each (.i ((↑k :
 Int) < (↑(List.map captureC x.each).length : Int)) (.x (↑k : Int) v3 (captureF v2) (.i (v2.name.kind ≠ n + v1) (.o 1 [] [.s (li (-1 : Int))]) (.r (n + v1 + 1) (.x (↑k : Int) v3
 (captureF v2) (.i (v2.name.number ≠ n + v1 + 1) (.o 1 [] [.s (li (-1 : Int))]) (.r (n + v1 + 1 + 1) (.w (.draw []) (.x (↑k : Int) v3 (captureF v2) (.d [.rd] (P_c_markText (n + v1
 + 1 + 1)) (.i (v2.name.text.data.toList ≠ (mText (n + v1 + 1 + 1)).data.toList) (.o 1 [] [.s (li (-1 : Int))]) (.r (n + v1 + 1 + 1 + 1) (.x (↑k : Int) v3 (captureF v2) (.d [.rd,
 .rd] (P_c_heldIntS v2.name.scopes (n + v1 + 1 + 1 + 1)) (.i (n + v1 + 1 + 1 + 1 + v4 < 0) (.o 1 [] [.s (li (-1 : Int))]) (.x (↑k : Int) v3 (captureF v2) (.d [.rd, .rd]
 (P_c_heldSyntaxS v2.name (n + v1 + 1 + 1 + 1 + v4)) (.i (n + v1 + 1 + 1 + 1 + v4 + v5 < 0) (.o 1 [] [.s (li (-1 : Int))]) (.x (↑k : Int) v3 (captureF v2) (.i (v2.depth ≠ n + v1 +
 1 + 1 + 1 + v4 + v5) (.o 1 [] [.s (li (-1 : Int))]) (.r (n + v1 + 1 + 1 + 1 + v4 + v5 + 1) (.x (↑k : Int) v3 (captureF v2) (.i (v2.form.kind ≠ n + v1 + 1 + 1 + 1 + v4 + v5 + 1)
 (.o 1 [] [.s (li (-1 : Int))]) (.r (n + v1 + 1 + 1 + 1 + v4 + v5 + 1 + 1) (.x (↑k : Int) v3 (captureF v2) (.i (v2.form.number ≠ n + v1 + 1 + 1 + 1 + v4 + v5 + 1 + 1) (.o 1 [] [.s
 (li (-1 : Int))]) (.r v8 (.w (.draw []) (.x (↑k : Int) v3 (captureF v2) (.d [.rd] (P_c_markText v8) (.i (v2.form.text.data.toList ≠ (mText v8).data.toList) (.o 1 [] [.s (li (-1 :
 Int))]) (.r v9 (.x (↑k : Int) v3 (captureF v2) (.d [.rd, .rd] (P_c_heldIntS v2.form.scopes v9) (.i (n + v1 + 1 + 1 + 1 + v4 + v5 + 1 + 1 + 1 + 1 + v6 < 0) (.o 1 [] [.s (li (-1 :
 Int))]) (.x (↑k : Int) v3 (captureF v2) (.d [.rd, .rd] (P_c_heldSyntaxS v2.form (n + v1 + 1 + 1 + 1 + v4 + v5 + 1 + 1 + 1 + 1 + v6)) (.i (n + v1 + 1 + 1 + 1 + v4 + v5 + 1 + 1 + 1
 + 1 + v6 + v7 < 0) (.o 1 [] [.s (li (-1 : Int))]) (.x (↑k : Int) v3 (captureF v2) (.d [.rd, .rd] (P_c_heldCaptureS v2 (n + v1 + 1 + 1 + 1 + v4 + v5 + 1 + 1 + 1 + 1 + v6 + v7)) (.i
 (n + v1 + 1 + 1 + 1 + v4 + v5 + 1 + 1 + 1 + 1 + v6 + v7 + (↑(sumBy cP v2.each) : Int) < 0) (.o 1 [] [.s (li (-1 : Int))]) (.r ((↑k : Int) + 1) (.g [] (k + 1) [.s (li ((↑k : Int) +
 1)), .s (li (n + v1 + 1 + 1 + 1 + v4 + v5 + 1 + 1 + 1 + 1 + v6 + v7 + (↑(sumBy cP v2.each) : Int)))])))))))))))))))))))))))))))))))))))))))))) (.o 0 [] [.s (li (n + v1))]))) (by
  intro k h; try dsimp only [teasy, nthW, lc_heldCaptureS_sLa] at h ⊢
  have g0 := sumBy_takeLe cP x.each (k + 1)
  have g1 := fun hk : k < x.each.length => mkP_fix (seqM_get hm hk)
  with_reducible repeat' (first | apply And.intro | exact zR | exact ih | (intro; skip) | apply c_markText | apply c_heldIntS | apply c_heldSyntaxS | apply c_heldSyntaxSL | apply ih)
  all_goals (try simp only [std, stdM, inj] at *)
  all_goals with_reducible repeat' apply And.intro
  all_goals (try (first | with_reducible apply c_markText | with_reducible apply c_heldIntS | with_reducible apply c_heldSyntaxS | with_reducible apply c_heldSyntaxSL | with_reducible apply ih | (simp only [← List.map_append]; first | with_reducible apply c_markText | with_reducible apply c_heldIntS | with_reducible apply c_heldSyntaxS | with_reducible apply c_heldSyntaxSL | with_reducible apply ih)))
  all_goals (try (first | exact z | ((first | refine rowGet ?_ | refine getC ?_ rfl); (first | omega | (simp only [std, stdM]; omega) | grind)) | (refine set_row ?_; (simp only [List.length_map, List.length_set, mkTo_len]; omega)) | (refine mkToRow ?_; (first | omega | (simp only [std, stdM]; omega) | grind)) | (refine mkTo_row ?_ rfl; (first | omega | (simp only [std, stdM]; omega) | grind)) | (refine mkTo_step ?_ ?_; (first | omega | (simp only [std, stdM]; omega) | grind); (first | grind [sumBy_step, getD_mem', cP_eq, snocI, snocS, rowSnoc])) | grind [sumBy_step, getD_mem', cP_eq, snocI, snocS, rowSnoc])))
theorem c_heldCaptureS_s (x : Capture) (n : Int) (h0 : 0 ≤ n) (h : n + sumBy cP x.each ≤ 100000000000000) (hm : seqM mkP cP x.each n = x.each) (ih : ∀ z ∈ x.each, ∀ (n : Int) (h0 :
 0 ≤ n) (h : n + sumBy cP z.each ≤ 100000000000000) (hm : seqM mkP cP z.each n = z.each), P_c_heldCaptureS z n)  : P_c_heldCaptureS x n := fnOK Tryz.call47 Tryz.func47 (.l
 (lc_heldCaptureS_sLa x n) (Sc_heldCaptureS_sLa x n h0 h hm ih) [] [.s (li 0), .s (li n)] 0 (.t (.s (li (n + (↑(sumBy cP x.each) : Int)))) (.t (.s (li (-1 : Int))) .q))) (by
  dsimp only [teasy, P_c_heldCaptureS, nthW, lc_heldCaptureS_sLa]
  have gl := cP_len x.each
  with_reducible repeat' (first | apply And.intro | exact zR | exact ih | (intro; skip) | apply c_markText | apply c_heldIntS | apply c_heldSyntaxS | apply c_heldSyntaxSL)
  all_goals (try simp only [std, stdM, inj] at *)
  all_goals with_reducible repeat' apply And.intro
  all_goals (try (first | with_reducible apply c_markText | with_reducible apply c_heldIntS | with_reducible apply c_heldSyntaxS | with_reducible apply c_heldSyntaxSL | with_reducible apply ih | (simp only [← List.map_append]; first | with_reducible apply c_markText | with_reducible apply c_heldIntS | with_reducible apply c_heldSyntaxS | with_reducible apply c_heldSyntaxSL | with_reducible apply ih)))
  all_goals (try (first | exact z | ((first | refine rowGet ?_ | refine getC ?_ rfl); (first | omega | (simp only [std, stdM]; omega) | grind)) | (refine set_row ?_; (simp only [List.length_map, List.length_set, mkTo_len]; omega)) | (refine mkToRow ?_; (first | omega | (simp only [std, stdM]; omega) | grind)) | (refine mkTo_row ?_ rfl; (first | omega | (simp only [std, stdM]; omega) | grind)) | (refine mkTo_step ?_ ?_; (first | omega | (simp only [std, stdM]; omega) | grind); (first | grind [mkTo_all, snocI, snocS, rowSnoc])) | grind [mkTo_all, snocI, snocS, rowSnoc])))
theorem c_heldCaptureS (x : Capture) : ∀ (n : Int) (h0 : 0 ≤ n) (h : n + sumBy cP x.each ≤ 100000000000000) (hm : seqM mkP cP x.each n = x.each), P_c_heldCaptureS x n := Capture.ind (P := fun x => ∀ (n : Int) (h0 : 0 ≤ n) (h : n + sumBy cP x.each ≤ 100000000000000) (hm : seqM mkP cP x.each n = x.each), P_c_heldCaptureS x n) (fun x ih n h0 h hm => c_heldCaptureS_s x n h0 h hm ih) x
theorem c_heldCaptureSL (L : List Capture) (n : Int) (h0 : 0 ≤ n) (h : n + sumBy cP L ≤ 100000000000000) (hm : seqM mkP cP L n = L) : P_c_heldCaptureS { (default : Capture) with each := L } n := c_heldCaptureS { (default : Capture) with each := L } n h0 h hm
end Go.Proofs.YtpnaoendfpaodaaGreat
end
section
namespace Go.Proofs.YtpnaoendfpaodaaGreat
open Go Go.Proofs.YtpnaoendfpaodaaGreat.Ab
set_option linter.unusedVariables false
set_option linter.unusedSimpArgs false
set_option maxHeartbeats 4000000
abbrev P_c_szIntS (L : List Int) (left : Int) : Ct := ⟨61, [], [ll (L.map intC), li left], [], .sv (li (sz L.length left))⟩
theorem c_szIntS (L : List Int) (left : Int) (h0 : 0 ≤ left) (h : left ≤ 2147483647)  : P_c_szIntS L left := fnOK Tryz.call61 Tryz.func61 (.z intC L (.r (left - (↑(List.map intC
 L).length : Int)) (.i (left - (↑(List.map intC L).length : Int) < 0) (.s (li (-1 : Int))) (.s (li (left - (↑(List.map intC L).length : Int))))))) (by
  dsimp only [teasy, P_c_szIntS]
  with_reducible repeat' (first | apply And.intro | exact zR | (intro; skip))
  all_goals (try simp only [std, inj] at *)
  all_goals with_reducible repeat' apply And.intro
  all_goals (try (first | exact z | grind [sz, snocI, snocS, rowSnoc])))
abbrev P_c_szSyntaxS (L : List Syntax) (left : Int) : Ct := ⟨36, [], [ll (L.map syntaxC), li left], [], .sv (li (sz (L.length + sumBy wY L) left))⟩
abbrev P_c_szSyntax (x : Syntax) (left : Int) : Ct := ⟨12, [], [syntaxA x, li left], [], .sv (li (sz (wY x) left))⟩
def lc_szSyntaxSLa (L : List Syntax) (left : Int) : Lp (Nat × Int) := .mk 27 0 (fun x => [(0, ll (List.map syntaxC L)), (1, hs x 1), (5, hs x 0)]) (fun x => []) (fun k => [.s (li
 (↑k.fst : Int)), .s (li k.snd)]) (fun k => k.fst ≤ L.length ∧ L.length ≤ 9223372036854775807 ∧ 0 ≤ k.snd ∧ k.snd ≤ left ∧ sz (sumBy wY (List.drop k.fst L)) k.snd = sz (L.length +
 sumBy wY L) left) (fun k => L.length - k.fst) [.mk (0 ≤ sz (L.length + sumBy wY L) left) (.exit 0) (fun x => [(1, hs x 0)]) (fun x => []) [.s (li (sz (L.length + sumBy wY L)
 left))], .mk (sz (L.length + sumBy wY L) left = (-1 : Int)) .ret (fun x => [(4, hs x 0)]) (fun x => []) [.s (li (-1 : Int))]]
theorem Sc_szSyntaxSLa (L : List Syntax) (left : Int) (h0 : 0 ≤ left) (h : left ≤ 2147483647) (ih : ∀ (x : Syntax), x ∈ L → ∀ (left : Int), 0 ≤ left → left ≤ 2147483647 → OK
 (P_c_szSyntax x left)) : Lp.Sem Tryz.prog (loopAt Tryz.f36 0) (lc_szSyntaxSLa L left) := lpOK (fun k => .z syntaxC L (.i ((↑k.fst : Int) < (↑(List.map syntaxC L).length : Int))
 (.x (↑k.fst : Int) (List.map syntaxC L) (syntaxF (L.getD k.fst default)) (.d [.rd, .rd] (P_c_szSyntax (L.getD k.fst default) k.snd) (.i (sz (wY (L.getD k.fst default)) k.snd < 0)
 (.o 1 [] [.s (li (-1 : Int))]) (.r ((↑k.fst : Int) + 1) (.g [] (k.fst + 1, sz (wY (L.getD k.fst default)) k.snd) [.s (li ((↑k.fst : Int) + 1)), .s (li (sz (wY (L.getD k.fst
 default)) k.snd))]))))) (.o 0 [] [.s (li k.snd)]))) (by
  intro k h; try dsimp only [teasy, nthW, lc_szSyntaxSLa] at h ⊢
  obtain ⟨i, n⟩ := k
  simp only at *
  with_reducible repeat' (first | apply And.intro | exact zR | exact ih | (intro; skip) | apply ih)
  all_goals (try simp only [std, inj] at *)
  all_goals with_reducible repeat' apply And.intro
  all_goals (try (first | with_reducible apply ih | (simp only [← List.map_append]; first | with_reducible apply ih)))
  all_goals (try (first | exact z | grind [drop_get, sumBy, sz, getD_mem', snocI, snocS, rowSnoc])))
theorem c_szSyntaxS (L : List Syntax) (left : Int) (h0 : 0 ≤ left) (h : left ≤ 2147483647) (ih : ∀ x ∈ L, ∀ (left : Int) (h0 : 0 ≤ left) (h : left ≤ 2147483647), P_c_szSyntax x
 left)  : P_c_szSyntaxS L left := fnOK Tryz.call36 Tryz.func36 (.z syntaxC L (.r (left - (↑(List.map syntaxC L).length : Int)) (.i (left - (↑(List.map syntaxC L).length : Int) < 0)
 (.s (li (-1 : Int))) (.l (lc_szSyntaxSLa L left) (Sc_szSyntaxSLa L left h0 h ih) [] [.s (li 0), .s (li (left - (↑(List.map syntaxC L).length : Int)))] (0, left - (↑L.length :
 Int)) (.t (.s (li (sz (L.length + sumBy wY L) left))) (.t (.s (li (-1 : Int))) .q)))))) (by
  dsimp only [teasy, P_c_szSyntaxS, nthW, lc_szSyntaxSLa]
  with_reducible repeat' (first | apply And.intro | exact zR | exact ih | (intro; skip))
  all_goals (try simp only [std, inj] at *)
  all_goals with_reducible repeat' apply And.intro
  all_goals (try (first | with_reducible apply ih | (simp only [← List.map_append]; first | with_reducible apply ih)))
  all_goals (try (first | exact z | grind [sz, snocI, snocS, rowSnoc])))
theorem c_szSyntax_s (x : Syntax) (left : Int) (h0 : 0 ≤ left) (h : left ≤ 2147483647) (ih : ∀ z ∈ x.items, ∀ (left : Int) (h0 : 0 ≤ left) (h : left ≤ 2147483647), P_c_szSyntax z
 left)  : P_c_szSyntax x left := fnOK Tryz.call12 Tryz.func12 (.h (x.text.data.toList.length ≤ 9223372036854775807) (.r (left - (↑x.text.data.toList.length : Int)) (.i (left -
 (↑x.text.data.toList.length : Int) < 0) (.s (li (-1 : Int))) (.d [.rd, .rd] (P_c_szIntS x.scopes (left - (↑x.text.data.toList.length : Int))) (.i (sz x.scopes.length (left -
 (↑x.text.data.toList.length : Int)) < 0) (.s (li (-1 : Int))) (.d [.rd, .rd] (P_c_szSyntaxS x.items (sz x.scopes.length (left - (↑x.text.data.toList.length : Int)))) (.i (sz
 (x.items.length + sumBy wY x.items) (sz x.scopes.length (left - (↑x.text.data.toList.length : Int))) < 0) (.s (li (-1 : Int))) (.s (li (sz (x.items.length + sumBy wY x.items) (sz
 x.scopes.length (left - (↑x.text.data.toList.length : Int))))))))))))) (by
  dsimp only [teasy, P_c_szSyntax]
  with_reducible repeat' (first | apply And.intro | exact zR | exact ih | (intro; skip) | apply c_szIntS | apply c_szSyntaxS | apply ih)
  all_goals (try simp only [std, inj] at *)
  all_goals with_reducible repeat' apply And.intro
  all_goals (try (first | with_reducible apply c_szIntS | with_reducible apply c_szSyntaxS | with_reducible apply ih | (simp only [← List.map_append]; first | with_reducible apply c_szIntS | with_reducible apply c_szSyntaxS | with_reducible apply ih)))
  all_goals (try (first | exact z | grind [wY_eq, sz, wS, snocI, snocS, rowSnoc])))
theorem c_szSyntax (x : Syntax) : ∀ (left : Int) (h0 : 0 ≤ left) (h : left ≤ 2147483647), P_c_szSyntax x left := Syntax.ind (P := fun x => ∀ (left : Int) (h0 : 0 ≤ left) (h : left ≤ 2147483647), P_c_szSyntax x left) (fun x ih left h0 h => c_szSyntax_s x left h0 h ih) x
abbrev P_c_szBinding (x : Binding) (left : Int) : Ct := ⟨102, [], [bindingA x, li left], [], .sv (li (sz (wB x) left))⟩
theorem c_szBinding (x : Binding) (left : Int) (h0 : 0 ≤ left) (h : left ≤ 2147483647)  : P_c_szBinding x left := fnOK Tryz.call102 Tryz.func102 (.h (x.text.data.toList.length ≤
 9223372036854775807) (.r (left - (↑x.text.data.toList.length : Int)) (.i (left - (↑x.text.data.toList.length : Int) < 0) (.s (li (-1 : Int))) (.d [.rd, .rd] (P_c_szIntS x.scopes
 (left - (↑x.text.data.toList.length : Int))) (.i (sz x.scopes.length (left - (↑x.text.data.toList.length : Int)) < 0) (.s (li (-1 : Int))) (.s (li (sz x.scopes.length (left -
 (↑x.text.data.toList.length : Int)))))))))) (by
  dsimp only [teasy, P_c_szBinding]
  with_reducible repeat' (first | apply And.intro | exact zR | (intro; skip) | apply c_szIntS)
  all_goals (try simp only [std, inj] at *)
  all_goals with_reducible repeat' apply And.intro
  all_goals (try (first | with_reducible apply c_szIntS | (simp only [← List.map_append]; first | with_reducible apply c_szIntS)))
  all_goals (try (first | exact z | grind [wB_eq, sz, wS, snocI, snocS, rowSnoc])))
abbrev P_c_szBindingS (L : List Binding) (left : Int) : Ct := ⟨35, [], [ll (L.map bindingC), li left], [], .sv (li (sz (L.length + sumBy wB L) left))⟩
def lc_szBindingSLa (L : List Binding) (left : Int) : Lp (Nat × Int) := .mk 27 0 (fun x => [(0, ll (List.map bindingC L)), (1, hs x 1), (5, hs x 0)]) (fun x => []) (fun k => [.s
 (li (↑k.fst : Int)), .s (li k.snd)]) (fun k => k.fst ≤ L.length ∧ L.length ≤ 9223372036854775807 ∧ 0 ≤ k.snd ∧ k.snd ≤ left ∧ sz (sumBy wB (List.drop k.fst L)) k.snd = sz
 (L.length + sumBy wB L) left) (fun k => L.length - k.fst) [.mk (0 ≤ sz (L.length + sumBy wB L) left) (.exit 0) (fun x => [(1, hs x 0)]) (fun x => []) [.s (li (sz (L.length + sumBy
 wB L) left))], .mk (sz (L.length + sumBy wB L) left = (-1 : Int)) .ret (fun x => [(4, hs x 0)]) (fun x => []) [.s (li (-1 : Int))]]
theorem Sc_szBindingSLa (L : List Binding) (left : Int) (h0 : 0 ≤ left) (h : left ≤ 2147483647) : Lp.Sem Tryz.prog (loopAt Tryz.f35 0) (lc_szBindingSLa L left) := lpOK (fun k => .z
 bindingC L (.i ((↑k.fst : Int) < (↑(List.map bindingC L).length : Int)) (.x (↑k.fst : Int) (List.map bindingC L) (bindingF (L.getD k.fst default)) (.d [.rd, .rd] (P_c_szBinding
 (L.getD k.fst default) k.snd) (.i (sz (wB (L.getD k.fst default)) k.snd < 0) (.o 1 [] [.s (li (-1 : Int))]) (.r ((↑k.fst : Int) + 1) (.g [] (k.fst + 1, sz (wB (L.getD k.fst
 default)) k.snd) [.s (li ((↑k.fst : Int) + 1)), .s (li (sz (wB (L.getD k.fst default)) k.snd))]))))) (.o 0 [] [.s (li k.snd)]))) (by
  intro k h; try dsimp only [teasy, nthW, lc_szBindingSLa] at h ⊢
  obtain ⟨i, n⟩ := k
  simp only at *
  with_reducible repeat' (first | apply And.intro | exact zR | (intro; skip) | apply c_szBinding)
  all_goals (try simp only [std, inj] at *)
  all_goals with_reducible repeat' apply And.intro
  all_goals (try (first | with_reducible apply c_szBinding | (simp only [← List.map_append]; first | with_reducible apply c_szBinding)))
  all_goals (try (first | exact z | grind [drop_get, sumBy, sz, getD_mem', snocI, snocS, rowSnoc])))
theorem c_szBindingS (L : List Binding) (left : Int) (h0 : 0 ≤ left) (h : left ≤ 2147483647)  : P_c_szBindingS L left := fnOK Tryz.call35 Tryz.func35 (.z bindingC L (.r (left -
 (↑(List.map bindingC L).length : Int)) (.i (left - (↑(List.map bindingC L).length : Int) < 0) (.s (li (-1 : Int))) (.l (lc_szBindingSLa L left) (Sc_szBindingSLa L left h0 h) []
 [.s (li 0), .s (li (left - (↑(List.map bindingC L).length : Int)))] (0, left - (↑L.length : Int)) (.t (.s (li (sz (L.length + sumBy wB L) left))) (.t (.s (li (-1 : Int))) .q))))))
 (by
  dsimp only [teasy, P_c_szBindingS, nthW, lc_szBindingSLa]
  with_reducible repeat' (first | apply And.intro | exact zR | (intro; skip) | apply c_szBinding)
  all_goals (try simp only [std, inj] at *)
  all_goals with_reducible repeat' apply And.intro
  all_goals (try (first | with_reducible apply c_szBinding | (simp only [← List.map_append]; first | with_reducible apply c_szBinding)))
  all_goals (try (first | exact z | grind [sz, snocI, snocS, rowSnoc])))
end Go.Proofs.YtpnaoendfpaodaaGreat
end
section
namespace Go.Proofs.YtpnaoendfpaodaaGreat
open Go Go.Proofs.YtpnaoendfpaodaaGreat.Ab
set_option linter.unusedVariables false
set_option linter.unusedSimpArgs false
set_option maxHeartbeats 4000000
abbrev P_c_toIntS (L : List Int) : Ct := ⟨69, [], [ll (L.map intC)], [.arr true 1 (L.map intC)], .sv (.one (.ref 0))⟩
def lc_toIntSLa (L : List Int) : Lp Nat := .mk 22 0 (fun x => [(0, ll (List.map intC L)), (3, SV.one (AC.ref 0)), (4, hs x 0)]) (fun x => [ho x 1]) (fun k => [.s (li (↑k : Int)),
 .o (Ob.arr true 1 (List.map intC (fillTo L k)))]) (fun k => k ≤ L.length ∧ L.length ≤ 9223372036854775807) (fun k => L.length - k) [.mk True (.exit 0) (fun x => [(3, SV.one
 (AC.ref 0))]) (fun x => [ho x 0]) [.o (Ob.arr true 1 (List.map intC L))]]
theorem Sc_toIntSLa (L : List Int) (h : L.length ≤ 1048576) : Lp.Sem Tryz.prog (loopAt Tryz.f69 0) (lc_toIntSLa L) := lpOK (fun k => .z intC L (.i ((↑k : Int) < (↑(List.map intC
 L).length : Int)) (.x (↑k : Int) (List.map intC L) [cI (L.getD k 0)] (.p (0 ≤ (↑k : Int) ∧ (↑k : Int).toNat < (List.map intC (fillTo L k)).length) (.w (.cells (intC ((fillTo L
 k).getD (↑k : Int).toNat default))) (.p ((List.map intC (fillTo L k))[(↑k : Int).toNat]? = some [cI ((fillTo L k).getD (↑k : Int).toNat 0)]) (.r ((↑k : Int) + 1) (.g [0] (k + 1)
 [.s (li ((↑k : Int) + 1)), .o (Ob.arr true 1 ((List.map intC (fillTo L k)).set (↑k : Int).toNat [cI (L.getD k 0)]))])))))) (.o 0 [0] [.o (Ob.arr true 1 (List.map intC (fillTo L
 k)))]))) (by
  intro k h; try dsimp only [teasy, nthW, lc_toIntSLa] at h ⊢
  with_reducible repeat' (first | apply And.intro | exact zR | (intro; skip))
  all_goals (try simp only [std, inj] at *)
  all_goals with_reducible repeat' apply And.intro
  all_goals (try (first | exact z | exact zF | grind [fillTo_all, snocI, snocS, rowSnoc])))
theorem c_toIntS (L : List Int) (h : L.length ≤ 1048576)  : P_c_toIntS L := fnOK Tryz.call69 Tryz.func69 (.z intC L (.p (0 ≤ (↑(List.map intC L).length : Int) ∧ 8 * (↑(List.map intC
 L).length : Int).toNat ≤ 281474976710656) (.l (lc_toIntSLa L) (Sc_toIntSLa L h) [0] [.s (li 0), .o (Ob.arr true 1 (List.replicate (↑(List.map intC L).length : Int).toNat [cI 0]))]
 0 (.t (.f [0] [Ob.arr true 1 (List.map intC L)] (AV.sv (SV.one (AC.ref 0)))) .q)))) (by
  dsimp only [teasy, P_c_toIntS, nthW, lc_toIntSLa]
  with_reducible repeat' (first | apply And.intro | exact zR | (intro; skip))
  all_goals (try simp only [std, inj] at *)
  all_goals with_reducible repeat' apply And.intro
  all_goals (try (first | exact z | exact zF | grind [snocI, snocS, rowSnoc])))
abbrev P_c_toSyntaxS (L : List Syntax) : Ct := ⟨39, [], [ll (L.map syntaxC)], [.arr true 5 (L.map syntaxC)], .sv (.one (.ref 0))⟩
abbrev P_c_toSyntax (x : Syntax) : Ct := ⟨16, [], [syntaxA x], syntaxO x, .sv (syntaxR x 0)⟩
def lc_toSyntaxSLa (L : List Syntax) : Lp Nat := .mk 23 0 (fun x => [(0, ll (List.map syntaxC L)), (3, SV.one (AC.ref 0)), (4, hs x 0)]) (fun x => [ho x 1]) (fun k => [.s (li (↑k :
 Int)), .o (Ob.arr true 5 (List.map syntaxC (fillTo L k)))]) (fun k => k ≤ L.length ∧ L.length ≤ 9223372036854775807) (fun k => L.length - k) [.mk True (.exit 0) (fun x => [(3,
 SV.one (AC.ref 0))]) (fun x => [ho x 0]) [.o (Ob.arr true 5 (List.map syntaxC L))]]
theorem Sc_toSyntaxSLa (L : List Syntax) (h : L.length + sumBy wY L ≤ 1048576) (ih : ∀ (x : Syntax), x ∈ L → wY x ≤ 1048576 → OK (P_c_toSyntax x)) : Lp.Sem Tryz.prog (loopAt
 Tryz.f39 0) (lc_toSyntaxSLa L) := lpOK (fun k => .z syntaxC L (.i ((↑k : Int) < (↑(List.map syntaxC L).length : Int)) (.x (↑k : Int) (List.map syntaxC L) (syntaxF (L.getD k
 default)) (.d [.rd] (P_c_toSyntax (L.getD k default)) (.p (0 ≤ (↑k : Int) ∧ (↑k : Int).toNat < (List.map syntaxC (fillTo L k)).length) (.w (.cells (syntaxF ((fillTo L k).getD (↑k
 : Int).toNat default))) (.p ((List.map syntaxC (fillTo L k))[(↑k : Int).toNat]? = some (syntaxF ((fillTo L k).getD (↑k : Int).toNat default))) (.r ((↑k : Int) + 1) (.g [0] (k + 1)
 [.s (li ((↑k : Int) + 1)), .o (Ob.arr true 5 ((List.map syntaxC (fillTo L k)).set (↑k : Int).toNat (syntaxF (L.getD k default))))]))))))) (.o 0 [0] [.o (Ob.arr true 5 (List.map
 syntaxC (fillTo L k)))]))) (by
  intro k h; try dsimp only [teasy, nthW, lc_toSyntaxSLa] at h ⊢
  with_reducible repeat' (first | apply And.intro | exact zR | exact ih | (intro; skip) | apply ih)
  all_goals (try simp only [std, inj] at *)
  all_goals with_reducible repeat' apply And.intro
  all_goals (try (first | with_reducible apply ih | (simp only [← List.map_append]; first | with_reducible apply ih)))
  all_goals (try (first | exact z | exact zF | grind [fillTo_all, getD_mem', sumBy_mem, snocI, snocS, rowSnoc])))
theorem c_toSyntaxS (L : List Syntax) (h : L.length + sumBy wY L ≤ 1048576) (ih : ∀ x ∈ L, ∀ (h : wY x ≤ 1048576), P_c_toSyntax x)  : P_c_toSyntaxS L := fnOK Tryz.call39 Tryz.func39
 (.z syntaxC L (.p (0 ≤ (↑(List.map syntaxC L).length : Int) ∧ 80 * (↑(List.map syntaxC L).length : Int).toNat ≤ 281474976710656) (.l (lc_toSyntaxSLa L) (Sc_toSyntaxSLa L h ih) [0]
 [.s (li 0), .o (Ob.arr true 5 (List.replicate (↑(List.map syntaxC L).length : Int).toNat [cI 0, cI 0, cS (ByteArray.mk #[]), Cell.list [], Cell.list []]))] 0 (.t (.f [0] [Ob.arr
 true 5 (List.map syntaxC L)] (AV.sv (SV.one (AC.ref 0)))) .q)))) (by
  dsimp only [teasy, P_c_toSyntaxS, nthW, lc_toSyntaxSLa]
  with_reducible repeat' (first | apply And.intro | exact zR | exact ih | (intro; skip))
  all_goals (try simp only [std, inj] at *)
  all_goals with_reducible repeat' apply And.intro
  all_goals (try (first | with_reducible apply ih | (simp only [← List.map_append]; first | with_reducible apply ih)))
  all_goals (try (first | exact z | exact zF | grind [snocI, snocS, rowSnoc])))
theorem c_toSyntax_s (x : Syntax) (h : wY x ≤ 1048576) (ih : ∀ z ∈ x.items, ∀ (h : wY z ≤ 1048576), P_c_toSyntax z)  : P_c_toSyntax x := fnOK Tryz.call16 Tryz.func16 (.d [.rd]
 (P_c_toIntS x.scopes) (.d [.rd] (P_c_toSyntaxS x.items) (.f [3, 4] [Ob.arr true 1 (List.map intC x.scopes), Ob.arr true 5 (List.map syntaxC x.items)] (AV.sv (SV.agg [vI x.kind, vI
 x.number, vS x.text, AC.ref 0, AC.ref 1]))))) (by
  dsimp only [teasy, P_c_toSyntax]
  with_reducible repeat' (first | apply And.intro | exact zR | exact ih | (intro; skip) | apply c_toIntS | apply c_toSyntaxS | apply ih)
  all_goals (try simp only [std, inj] at *)
  all_goals with_reducible repeat' apply And.intro
  all_goals (try (first | with_reducible apply c_toIntS | with_reducible apply c_toSyntaxS | with_reducible apply ih | (simp only [← List.map_append]; first | with_reducible apply c_toIntS | with_reducible apply c_toSyntaxS | with_reducible apply ih)))
  all_goals (try (first | exact z | exact zF | grind [wY_eq, wS, snocI, snocS, rowSnoc])))
theorem c_toSyntax (x : Syntax) : ∀ (h : wY x ≤ 1048576), P_c_toSyntax x := Syntax.ind (P := fun x => ∀ (h : wY x ≤ 1048576), P_c_toSyntax x) (fun x ih h => c_toSyntax_s x h ih) x
abbrev P_c_toBinding (x : Binding) : Ct := ⟨107, [], [bindingA x], bindingO x, .sv (bindingR x 0)⟩
theorem c_toBinding (x : Binding) (h : wB x ≤ 1048576)  : P_c_toBinding x := fnOK Tryz.call107 Tryz.func107 (.d [.rd] (P_c_toIntS x.scopes) (.f [3] [Ob.arr true 1 (List.map intC
 x.scopes)] (AV.sv (SV.agg [vS x.text, AC.ref 0, vI x.kind, vI x.number])))) (by
  dsimp only [teasy, P_c_toBinding]
  with_reducible repeat' (first | apply And.intro | exact zR | (intro; skip) | apply c_toIntS)
  all_goals (try simp only [std, inj] at *)
  all_goals with_reducible repeat' apply And.intro
  all_goals (try (first | with_reducible apply c_toIntS | (simp only [← List.map_append]; first | with_reducible apply c_toIntS)))
  all_goals (try (first | exact z | exact zF | grind [wB_eq, wS, snocI, snocS, rowSnoc])))
abbrev P_c_toBindingS (L : List Binding) : Ct := ⟨38, [], [ll (L.map bindingC)], [.arr true 4 (L.map bindingC)], .sv (.one (.ref 0))⟩
def lc_toBindingSLa (L : List Binding) : Lp Nat := .mk 23 0 (fun x => [(0, ll (List.map bindingC L)), (3, SV.one (AC.ref 0)), (4, hs x 0)]) (fun x => [ho x 1]) (fun k => [.s (li
 (↑k : Int)), .o (Ob.arr true 4 (List.map bindingC (fillTo L k)))]) (fun k => k ≤ L.length ∧ L.length ≤ 9223372036854775807) (fun k => L.length - k) [.mk True (.exit 0) (fun x =>
 [(3, SV.one (AC.ref 0))]) (fun x => [ho x 0]) [.o (Ob.arr true 4 (List.map bindingC L))]]
theorem Sc_toBindingSLa (L : List Binding) (h : L.length + sumBy wB L ≤ 1048576) : Lp.Sem Tryz.prog (loopAt Tryz.f38 0) (lc_toBindingSLa L) := lpOK (fun k => .z bindingC L (.i ((↑k
 : Int) < (↑(List.map bindingC L).length : Int)) (.x (↑k : Int) (List.map bindingC L) (bindingF (L.getD k default)) (.d [.rd] (P_c_toBinding (L.getD k default)) (.p (0 ≤ (↑k : Int)
 ∧ (↑k : Int).toNat < (List.map bindingC (fillTo L k)).length) (.w (.cells (bindingF ((fillTo L k).getD (↑k : Int).toNat default))) (.p ((List.map bindingC (fillTo L k))[(↑k :
 Int).toNat]? = some (bindingF ((fillTo L k).getD (↑k : Int).toNat default))) (.r ((↑k : Int) + 1) (.g [0] (k + 1) [.s (li ((↑k : Int) + 1)), .o (Ob.arr true 4 ((List.map bindingC
 (fillTo L k)).set (↑k : Int).toNat (bindingF (L.getD k default))))]))))))) (.o 0 [0] [.o (Ob.arr true 4 (List.map bindingC (fillTo L k)))]))) (by
  intro k h; try dsimp only [teasy, nthW, lc_toBindingSLa] at h ⊢
  with_reducible repeat' (first | apply And.intro | exact zR | (intro; skip) | apply c_toBinding)
  all_goals (try simp only [std, inj] at *)
  all_goals with_reducible repeat' apply And.intro
  all_goals (try (first | with_reducible apply c_toBinding | (simp only [← List.map_append]; first | with_reducible apply c_toBinding)))
  all_goals (try (first | exact z | exact zF | grind [fillTo_all, getD_mem', sumBy_mem, snocI, snocS, rowSnoc])))
theorem c_toBindingS (L : List Binding) (h : L.length + sumBy wB L ≤ 1048576)  : P_c_toBindingS L := fnOK Tryz.call38 Tryz.func38 (.z bindingC L (.p (0 ≤ (↑(List.map bindingC
 L).length : Int) ∧ 56 * (↑(List.map bindingC L).length : Int).toNat ≤ 281474976710656) (.l (lc_toBindingSLa L) (Sc_toBindingSLa L h) [0] [.s (li 0), .o (Ob.arr true 4
 (List.replicate (↑(List.map bindingC L).length : Int).toNat [cS (ByteArray.mk #[]), Cell.list [], cI 0, cI 0]))] 0 (.t (.f [0] [Ob.arr true 4 (List.map bindingC L)] (AV.sv (SV.one
 (AC.ref 0)))) .q)))) (by
  dsimp only [teasy, P_c_toBindingS, nthW, lc_toBindingSLa]
  with_reducible repeat' (first | apply And.intro | exact zR | (intro; skip) | apply c_toBinding)
  all_goals (try simp only [std, inj] at *)
  all_goals with_reducible repeat' apply And.intro
  all_goals (try (first | with_reducible apply c_toBinding | (simp only [← List.map_append]; first | with_reducible apply c_toBinding)))
  all_goals (try (first | exact z | exact zF | grind [snocI, snocS, rowSnoc])))
end Go.Proofs.YtpnaoendfpaodaaGreat
end
section
namespace Go.Proofs.YtpnaoendfpaodaaGreat
open Go Go.Proofs.YtpnaoendfpaodaaGreat.Ab
set_option linter.unusedVariables false
set_option linter.unusedSimpArgs false
set_option maxHeartbeats 4000000
abbrev P_c_eqIntS (A : List Int) (B : List Int) : Ct := ⟨78, [], [ll (A.map intC), ll (B.map intC)], [], .sv (lb (decide (A = B)))⟩
def lc_eqIntSLa (A : List Int) (B : List Int) : Lp Nat := .mk 26 0 (fun x => [(0, ll (List.map intC A)), (1, ll (List.map intC B)), (5, hs x 0)]) (fun x => []) (fun k => [.s (li
 (↑k : Int))]) (fun k => k ≤ A.length ∧ A.length ≤ 9223372036854775807 ∧ A.length = B.length ∧ List.take k A = List.take k B) (fun k => A.length - k) [.mk (A = B) (.exit 0) (fun x
 => []) (fun x => []) [], .mk (A ≠ B) .ret (fun x => [(4, hs x 0)]) (fun x => []) [.s (lb false)]]
theorem Sc_eqIntSLa (A : List Int) (B : List Int) : Lp.Sem Tryz.prog (loopAt Tryz.f78 0) (lc_eqIntSLa A B) := lpOK (fun k => .z intC A (.i ((↑k : Int) < (↑(List.map intC A).length
 : Int)) (.w (.draw []) (.x (↑k : Int) (List.map intC A) [cI (A.getD k 0)] (.x (↑k : Int) (List.map intC B) [cI (B.getD k 0)] (.i (A.getD k (0 : Int) ≠ B.getD k 0) (.o 1 [] [.s (lb
 false)]) (.r ((↑k : Int) + 1) (.g [] (k + 1) [.s (li ((↑k : Int) + 1))])))))) (.o 0 [] []))) (by
  intro k h; try dsimp only [teasy, nthW, lc_eqIntSLa] at h ⊢
  with_reducible repeat' (first | apply And.intro | exact zR | (intro; skip))
  all_goals (try simp only [std, inj] at *)
  all_goals with_reducible repeat' apply And.intro
  all_goals (try (first | exact z | grind [take_eq, snocI, snocS, rowSnoc])))
theorem c_eqIntS (A B : List Int)  : P_c_eqIntS A B := fnOK Tryz.call78 Tryz.func78 (.z intC A (.z intC B (.i ((↑(List.map intC A).length : Int) ≠ (↑(List.map intC B).length : Int))
 (.s (lb false)) (.l (lc_eqIntSLa A B) (Sc_eqIntSLa A B) [] [.s (li 0)] 0 (.t (.s (lb true)) (.t (.s (lb false)) .q)))))) (by
  dsimp only [teasy, P_c_eqIntS, nthW, lc_eqIntSLa]
  with_reducible repeat' (first | apply And.intro | exact zR | (intro; skip))
  all_goals (try simp only [std, inj] at *)
  all_goals with_reducible repeat' apply And.intro
  all_goals (try (first | exact z | grind [snocI, snocS, rowSnoc])))
abbrev P_c_eqSyntaxS (A : List Syntax) (B : List Syntax) : Ct := ⟨43, [], [ll (A.map syntaxC), ll (B.map syntaxC)], [], .sv (lb (decide (A = B)))⟩
abbrev P_c_eqSyntax (x : Syntax) (y : Syntax) : Ct := ⟨20, [], [syntaxA x, syntaxA y], [], .sv (lb (decide (x = y)))⟩
def lc_eqSyntaxSLa (A : List Syntax) (B : List Syntax) : Lp Nat := .mk 27 0 (fun x => [(0, ll (List.map syntaxC A)), (1, ll (List.map syntaxC B)), (5, hs x 0)]) (fun x => []) (fun
 k => [.s (li (↑k : Int))]) (fun k => k ≤ A.length ∧ A.length ≤ 9223372036854775807 ∧ A.length = B.length ∧ List.take k A = List.take k B) (fun k => A.length - k) [.mk (A = B)
 (.exit 0) (fun x => []) (fun x => []) [], .mk (A ≠ B) .ret (fun x => [(4, hs x 0)]) (fun x => []) [.s (lb false)]]
theorem Sc_eqSyntaxSLa (A : List Syntax) (B : List Syntax) (ih : ∀ (x : Syntax), x ∈ A → ∀ (y : Syntax), OK (P_c_eqSyntax x y)) : Lp.Sem Tryz.prog (loopAt Tryz.f43 0)
 (lc_eqSyntaxSLa A B) := lpOK (fun k => .z syntaxC A (.i ((↑k : Int) < (↑(List.map syntaxC A).length : Int)) (.w (.draw []) (.x (↑k : Int) (List.map syntaxC A) (syntaxF (A.getD k
 default)) (.x (↑k : Int) (List.map syntaxC B) (syntaxF (B.getD k default)) (.d [.rd, .rd] (P_c_eqSyntax (A.getD k default) (B.getD k default)) (.b (!decide (A.getD k default =
 B.getD k default)) (.o 1 [] [.s (lb false)]) (.r ((↑k : Int) + 1) (.g [] (k + 1) [.s (li ((↑k : Int) + 1))]))))))) (.o 0 [] []))) (by
  intro k h; try dsimp only [teasy, nthW, lc_eqSyntaxSLa] at h ⊢
  with_reducible repeat' (first | apply And.intro | exact zR | exact ih | (intro; skip) | apply ih)
  all_goals (try simp only [std, inj] at *)
  all_goals with_reducible repeat' apply And.intro
  all_goals (try (first | with_reducible apply ih | (simp only [← List.map_append]; first | with_reducible apply ih)))
  all_goals (try (first | exact z | grind [take_eq, getD_mem', snocI, snocS, rowSnoc])))
theorem c_eqSyntaxS (A B : List Syntax) (ih : ∀ x ∈ A, ∀ (y : Syntax), P_c_eqSyntax x y)  : P_c_eqSyntaxS A B := fnOK Tryz.call43 Tryz.func43 (.z syntaxC A (.z syntaxC B (.i
 ((↑(List.map syntaxC A).length : Int) ≠ (↑(List.map syntaxC B).length : Int)) (.s (lb false)) (.l (lc_eqSyntaxSLa A B) (Sc_eqSyntaxSLa A B ih) [] [.s (li 0)] 0 (.t (.s (lb true))
 (.t (.s (lb false)) .q)))))) (by
  dsimp only [teasy, P_c_eqSyntaxS, nthW, lc_eqSyntaxSLa]
  with_reducible repeat' (first | apply And.intro | exact zR | exact ih | (intro; skip))
  all_goals (try simp only [std, inj] at *)
  all_goals with_reducible repeat' apply And.intro
  all_goals (try (first | with_reducible apply ih | (simp only [← List.map_append]; first | with_reducible apply ih)))
  all_goals (try (first | exact z | grind [snocI, snocS, rowSnoc])))
theorem c_eqSyntax_s (x y : Syntax) (ih : ∀ z ∈ x.items, ∀ (y : Syntax), P_c_eqSyntax z y)  : P_c_eqSyntax x y := fnOK Tryz.call20 Tryz.func20 (.i (x.kind ≠ y.kind) (.s (lb false))
 (.i (x.number ≠ y.number) (.s (lb false)) (.i (x.text.data.toList ≠ y.text.data.toList) (.s (lb false)) (.c [.rd, .rd] (c_eqIntS x.scopes y.scopes) (.b (!decide (x.scopes =
 y.scopes)) (.s (lb false)) (.d [.rd, .rd] (P_c_eqSyntaxS x.items y.items) (.b (!decide (x.items = y.items)) (.s (lb false)) (.s (lb true))))))))) (by
  dsimp only [teasy, P_c_eqSyntax]
  simp only [syntaxExt]
  with_reducible repeat' (first | apply And.intro | exact zR | exact ih | (intro; skip) | apply c_eqIntS | apply c_eqSyntaxS | apply ih)
  all_goals (try simp only [std, inj] at *)
  all_goals with_reducible repeat' apply And.intro
  all_goals (try (first | with_reducible apply c_eqIntS | with_reducible apply c_eqSyntaxS | with_reducible apply ih | (simp only [← List.map_append]; first | with_reducible apply c_eqIntS | with_reducible apply c_eqSyntaxS | with_reducible apply ih)))
  all_goals (try (first | exact z | grind [bytes_ext, snocI, snocS, rowSnoc])))
theorem c_eqSyntax (x : Syntax) : ∀ (y : Syntax), P_c_eqSyntax x y := Syntax.ind (P := fun x => ∀ (y : Syntax), P_c_eqSyntax x y) (fun x ih y => c_eqSyntax_s x y ih) x
abbrev P_c_eqBinding (x : Binding) (y : Binding) : Ct := ⟨113, [], [bindingA x, bindingA y], [], .sv (lb (decide (x = y)))⟩
theorem c_eqBinding (x y : Binding)  : P_c_eqBinding x y := fnOK Tryz.call113 Tryz.func113 (.i (x.text.data.toList ≠ y.text.data.toList) (.s (lb false)) (.c [.rd, .rd] (c_eqIntS
 x.scopes y.scopes) (.b (!decide (x.scopes = y.scopes)) (.s (lb false)) (.i (x.kind ≠ y.kind) (.s (lb false)) (.i (x.number ≠ y.number) (.s (lb false)) (.s (lb true))))))) (by
  dsimp only [teasy, P_c_eqBinding]
  simp only [bindingExt]
  with_reducible repeat' (first | apply And.intro | exact zR | (intro; skip))
  all_goals (try simp only [std, inj] at *)
  all_goals with_reducible repeat' apply And.intro
  all_goals (try (first | exact z | grind [bytes_ext, snocI, snocS, rowSnoc])))
abbrev P_c_eqBindingS (A : List Binding) (B : List Binding) : Ct := ⟨42, [], [ll (A.map bindingC), ll (B.map bindingC)], [], .sv (lb (decide (A = B)))⟩
def lc_eqBindingSLa (A : List Binding) (B : List Binding) : Lp Nat := .mk 27 0 (fun x => [(0, ll (List.map bindingC A)), (1, ll (List.map bindingC B)), (5, hs x 0)]) (fun x => [])
 (fun k => [.s (li (↑k : Int))]) (fun k => k ≤ A.length ∧ A.length ≤ 9223372036854775807 ∧ A.length = B.length ∧ List.take k A = List.take k B) (fun k => A.length - k) [.mk (A = B)
 (.exit 0) (fun x => []) (fun x => []) [], .mk (A ≠ B) .ret (fun x => [(4, hs x 0)]) (fun x => []) [.s (lb false)]]
theorem Sc_eqBindingSLa (A : List Binding) (B : List Binding) : Lp.Sem Tryz.prog (loopAt Tryz.f42 0) (lc_eqBindingSLa A B) := lpOK (fun k => .z bindingC A (.i ((↑k : Int) <
 (↑(List.map bindingC A).length : Int)) (.w (.draw []) (.x (↑k : Int) (List.map bindingC A) (bindingF (A.getD k default)) (.x (↑k : Int) (List.map bindingC B) (bindingF (B.getD k
 default)) (.c [.rd, .rd] (c_eqBinding (A.getD k default) (B.getD k default)) (.b (!decide (A.getD k default = B.getD k default)) (.o 1 [] [.s (lb false)]) (.r ((↑k : Int) + 1) (.g
 [] (k + 1) [.s (li ((↑k : Int) + 1))]))))))) (.o 0 [] []))) (by
  intro k h; try dsimp only [teasy, nthW, lc_eqBindingSLa] at h ⊢
  with_reducible repeat' (first | apply And.intro | exact zR | (intro; skip))
  all_goals (try simp only [std, inj] at *)
  all_goals with_reducible repeat' apply And.intro
  all_goals (try (first | exact z | grind [take_eq, getD_mem', snocI, snocS, rowSnoc])))
theorem c_eqBindingS (A B : List Binding)  : P_c_eqBindingS A B := fnOK Tryz.call42 Tryz.func42 (.z bindingC A (.z bindingC B (.i ((↑(List.map bindingC A).length : Int) ≠ (↑(List.map
 bindingC B).length : Int)) (.s (lb false)) (.l (lc_eqBindingSLa A B) (Sc_eqBindingSLa A B) [] [.s (li 0)] 0 (.t (.s (lb true)) (.t (.s (lb false)) .q)))))) (by
  dsimp only [teasy, P_c_eqBindingS, nthW, lc_eqBindingSLa]
  with_reducible repeat' (first | apply And.intro | exact zR | (intro; skip))
  all_goals (try simp only [std, inj] at *)
  all_goals with_reducible repeat' apply And.intro
  all_goals (try (first | exact z | grind [snocI, snocS, rowSnoc])))
abbrev P_c_eqCaptureS (A : List Capture) (B : List Capture) : Ct := ⟨41, [], [ll (A.map captureC), ll (B.map captureC)], [], .sv (lb (decide (A = B)))⟩
abbrev P_c_eqCapture (x : Capture) (y : Capture) : Ct := ⟨112, [], [captureA x, captureA y], [], .sv (lb (decide (x = y)))⟩
def lc_eqCaptureSLa (A : List Capture) (B : List Capture) : Lp Nat := .mk 27 0 (fun x => [(0, ll (List.map captureC A)), (1, ll (List.map captureC B)), (5, hs x 0)]) (fun x => [])
 (fun k => [.s (li (↑k : Int))]) (fun k => k ≤ A.length ∧ A.length ≤ 9223372036854775807 ∧ A.length = B.length ∧ List.take k A = List.take k B) (fun k => A.length - k) [.mk (A = B)
 (.exit 0) (fun x => []) (fun x => []) [], .mk (A ≠ B) .ret (fun x => [(4, hs x 0)]) (fun x => []) [.s (lb false)]]
theorem Sc_eqCaptureSLa (A : List Capture) (B : List Capture) (ih : ∀ (x : Capture), x ∈ A → ∀ (y : Capture), OK (P_c_eqCapture x y)) : Lp.Sem Tryz.prog (loopAt Tryz.f41 0)
 (lc_eqCaptureSLa A B) := lpOK (fun k => .z captureC A (.i ((↑k : Int) < (↑(List.map captureC A).length : Int)) (.w (.draw []) (.x (↑k : Int) (List.map captureC A) (captureF
 (A.getD k default)) (.x (↑k : Int) (List.map captureC B) (captureF (B.getD k default)) (.d [.rd, .rd] (P_c_eqCapture (A.getD k default) (B.getD k default)) (.b (!decide (A.getD k
 default = B.getD k default)) (.o 1 [] [.s (lb false)]) (.r ((↑k : Int) + 1) (.g [] (k + 1) [.s (li ((↑k : Int) + 1))]))))))) (.o 0 [] []))) (by
  intro k h; try dsimp only [teasy, nthW, lc_eqCaptureSLa] at h ⊢
  with_reducible repeat' (first | apply And.intro | exact zR | exact ih | (intro; skip) | apply ih)
  all_goals (try simp only [std, inj] at *)
  all_goals with_reducible repeat' apply And.intro
  all_goals (try (first | with_reducible apply ih | (simp only [← List.map_append]; first | with_reducible apply ih)))
  all_goals (try (first | exact z | grind [take_eq, getD_mem', snocI, snocS, rowSnoc])))
theorem c_eqCaptureS (A B : List Capture) (ih : ∀ x ∈ A, ∀ (y : Capture), P_c_eqCapture x y)  : P_c_eqCaptureS A B := fnOK Tryz.call41 Tryz.func41 (.z captureC A (.z captureC B (.i
 ((↑(List.map captureC A).length : Int) ≠ (↑(List.map captureC B).length : Int)) (.s (lb false)) (.l (lc_eqCaptureSLa A B) (Sc_eqCaptureSLa A B ih) [] [.s (li 0)] 0 (.t (.s (lb
 true)) (.t (.s (lb false)) .q)))))) (by
  dsimp only [teasy, P_c_eqCaptureS, nthW, lc_eqCaptureSLa]
  with_reducible repeat' (first | apply And.intro | exact zR | exact ih | (intro; skip))
  all_goals (try simp only [std, inj] at *)
  all_goals with_reducible repeat' apply And.intro
  all_goals (try (first | with_reducible apply ih | (simp only [← List.map_append]; first | with_reducible apply ih)))
  all_goals (try (first | exact z | grind [snocI, snocS, rowSnoc])))
theorem c_eqCapture_s (x y : Capture) (ih : ∀ z ∈ x.each, ∀ (y : Capture), P_c_eqCapture z y)  : P_c_eqCapture x y := fnOK Tryz.call112 Tryz.func112 (.c [.rd, .rd] (c_eqSyntax x.name
 y.name) (.b (!decide (x.name = y.name)) (.s (lb false)) (.i (x.depth ≠ y.depth) (.s (lb false)) (.c [.rd, .rd] (c_eqSyntax x.form y.form) (.b (!decide (x.form = y.form)) (.s (lb
 false)) (.d [.rd, .rd] (P_c_eqCaptureS x.each y.each) (.b (!decide (x.each = y.each)) (.s (lb false)) (.s (lb true))))))))) (by
  dsimp only [teasy, P_c_eqCapture]
  simp only [captureExt]
  with_reducible repeat' (first | apply And.intro | exact zR | exact ih | (intro; skip) | apply c_eqSyntax | apply c_eqCaptureS | apply ih)
  all_goals (try simp only [std, inj] at *)
  all_goals with_reducible repeat' apply And.intro
  all_goals (try (first | with_reducible apply c_eqSyntax | with_reducible apply c_eqCaptureS | with_reducible apply ih | (simp only [← List.map_append]; first | with_reducible apply c_eqSyntax | with_reducible apply c_eqCaptureS | with_reducible apply ih)))
  all_goals (try (first | exact z | grind [bytes_ext, snocI, snocS, rowSnoc])))
theorem c_eqCapture (x : Capture) : ∀ (y : Capture), P_c_eqCapture x y := Capture.ind (P := fun x => ∀ (y : Capture), P_c_eqCapture x y) (fun x ih y => c_eqCapture_s x y ih) x
end Go.Proofs.YtpnaoendfpaodaaGreat
end
section
namespace Go.Proofs.YtpnaoendfpaodaaGreat
open Go Go.Proofs.YtpnaoendfpaodaaGreat.Ab
set_option linter.unusedVariables false
set_option linter.unusedSimpArgs false
set_option maxHeartbeats 4000000
theorem mtO_c (B : List Binding) (Ls : List Syntax) (p f : Syntax) (hp : wY p ≤ 1048576) (hf : wY f ≤ 1048576) : sumBy cP (mtO B Ls p f) ≤ 20000000000000 ∧ (mtO B Ls p f).length ≤ 2000000000000 := by
  have h1 : (1 + wY p) * (1 + wY f) ≤ 1048577 * 1048577 := Nat.mul_le_mul (by omega) (by omega)
  unfold mtO; split
  · cases h : gS B Ls p f with
    | none => simp [sumBy]
    | some c => have := mt_c h; simp only [Option.getD_some]; omega
  · simp [sumBy]
abbrev P_c_LMat (B : List Binding) (Ls : List Syntax) (p : Syntax) (f : Syntax) : Ct := ⟨5, [], [ll (B.map bindingC), ll (Ls.map syntaxC), syntaxA p, syntaxA f], [], .sv (lb true)⟩
theorem c_LMat (B : List Binding) (Ls : List Syntax) (p f : Syntax)  : P_c_LMat B Ls p f := fnOK Tryz.call5 Tryz.func5 (.d [.rd, .rd] (P_c_szBindingS B 1048576) (.i (sz (B.length +
 sumBy wB B) (1048576 : Int) < 0) (.s (lb true)) (.d [.rd, .rd] (P_c_szSyntaxS Ls (sz (B.length + sumBy wB B) 1048576)) (.i (sz (Ls.length + sumBy wY Ls) (sz (B.length + sumBy wB
 B) 1048576) < 0) (.s (lb true)) (.d [.rd, .rd] (P_c_szSyntax p (sz (Ls.length + sumBy wY Ls) (sz (B.length + sumBy wB B) 1048576))) (.i (sz (wY p) (sz (Ls.length + sumBy wY Ls)
 (sz (B.length + sumBy wB B) 1048576)) < 0) (.s (lb true)) (.d [.rd, .rd] (P_c_szSyntax f (sz (wY p) (sz (Ls.length + sumBy wY Ls) (sz (B.length + sumBy wB B) 1048576)))) (.i (sz
 (wY f) (sz (wY p) (sz (Ls.length + sumBy wY Ls) (sz (B.length + sumBy wB B) 1048576))) < 0) (.s (lb true)) (.w (.draw []) (.d [.rd] (P_c_toBindingS B) (.d [.rd] (P_c_toSyntaxS Ls)
 (.d [.rd] (P_c_toSyntax p) (.d [.rd] (P_c_toSyntax f) (.d [.rd, .rd, .rd, .rd] (P_c_sMatch B Ls p f) (.d [.rd] (P_c_toBindingS B) (.d [.rd] (P_c_toSyntaxS Ls) (.d [.rd]
 (P_c_toSyntax p) (.d [.rd] (P_c_toSyntax f) (.d [.rd, .rd, .rd, .rd] (P_c_iMatch B Ls p f) (.d [.rd, .rd] (P_c_eqCaptureS (mtO B Ls p f) (mtO B Ls p f)) (.b (!decide (mtO B Ls p f
 = mtO B Ls p f)) (.y true (.s (lb false))) (.i (mtB B Ls p f ≠ mtB B Ls p f) (.s (lb false)) (.d [.rd] (P_c_toBindingS B) (.c [.rd, .rd] (c_eqBindingS B B) (.b (!decide (B = B))
 (.s (lb false)) (.d [.rd] (P_c_toSyntaxS Ls) (.d [.rd, .rd] (P_c_eqSyntaxS Ls Ls) (.b (!decide (Ls = Ls)) (.s (lb false)) (.w (.draw []) (.d [.rd] (P_c_toSyntax p) (.c [.rd, .rd]
 (c_eqSyntax p p) (.b (!decide (p = p)) (.s (lb false)) (.w (.draw []) (.d [.rd] (P_c_toSyntax f) (.c [.rd, .rd] (c_eqSyntax f f) (.b (!decide (f = f)) (.s (lb false)) (.d [.own
 true 4, .rd] (P_c_markBindingS B 1) (.d [.own true 5, .rd] (P_c_markSyntaxS (Syntax.mk 0 0 default [] Ls) (1 + (↑(sumBy cB B) : Int))) (.d [.agg [none, none, none, some (true, 1),
 some (true, 5)], .rd] (P_c_markSyntax p (1 + (↑(sumBy cB B) : Int) + (↑(sumBy cY Ls) : Int))) (.d [.agg [none, none, none, some (true, 1), some (true, 5)], .rd] (P_c_markSyntax f
 (1 + (↑(sumBy cB B) : Int) + (↑(sumBy cY Ls) : Int) + (↑p.scopes.length : Int) + (↑(sumBy cY p.items) : Int))) (.y false (.d [.rd, .rd] (P_c_eqCaptureS (mtO B Ls p f) (mtO B Ls p
 f)) (.b (!decide (mtO B Ls p f = mtO B Ls p f)) (.y true (.s (lb false))) (.i (mtB B Ls p f ≠ mtB B Ls p f) (.s (lb false)) (.d [.own true 12, .rd] (P_c_markCaptureS (Capture.mk
 (Syntax.mk 0 0 default [] []) 0 (Syntax.mk 0 0 default [] []) (mtO B Ls p f)) 1) (.d [.rd, .rd] (P_c_heldCaptureS (Capture.mk (Syntax.mk 0 0 default [] []) 0 (Syntax.mk 0 0
 default [] []) (seqM mkP cP (mtO B Ls p f) 1)) 1) (.y false (.i (1 + (↑(sumBy cP (seqM mkP cP (mtO B Ls p f) 1)) : Int) ≠ 1 + (↑(sumBy cP (mtO B Ls p f)) : Int)) (.s (lb false))
 (.w (.draw []) (.d [.rd] (P_c_toBindingS B) (.d [.rd] (P_c_toSyntaxS Ls) (.d [.rd] (P_c_toSyntax p) (.d [.rd] (P_c_toSyntax f) (.d [.rd, .rd, .rd, .rd] (P_c_iMatch B Ls p f) (.d
 [.rd, .rd] (P_c_eqCaptureS (mtO B Ls p f) (mtO B Ls p f)) (.b (!decide (mtO B Ls p f = mtO B Ls p f)) (.y true (.s (lb false))) (.i (mtB B Ls p f ≠ mtB B Ls p f) (.s (lb false))
 (.d [.rd, .rd] (P_c_heldCaptureS (Capture.mk (Syntax.mk 0 0 default [] []) 0 (Syntax.mk 0 0 default [] []) (seqM mkP cP (mtO B Ls p f) 1)) 1) (.y false (.i (1 + (↑(sumBy cP (seqM
 mkP cP (mtO B Ls p f) 1)) : Int) ≠ 1 + (↑(sumBy cP (mtO B Ls p f)) : Int)) (.s (lb false)) (.s (lb true)))))))))))))))))))))))))))))))))))))))))))))))))))))))))))))) (by
  dsimp only [teasy, P_c_LMat]
  have b1 := sumBy_le16 B fun x _ => cB_le x
  have b2 := sumBy_le16 Ls fun x _ => cY_le x
  have b3 := cY_le p
  have b4 := cY_eq p
  have b5 := cY_le f
  have b6 := cY_eq f
  have b7 := mtO_c B Ls p f
  with_reducible repeat' (first | apply And.intro | exact zR | (intro; skip) | apply c_szBindingS | apply c_szSyntaxS | apply c_szSyntax | apply c_toBindingS | apply c_toSyntaxS | apply c_toSyntax | apply c_eqBindingS | apply c_eqBinding | apply c_eqSyntaxS | apply c_eqSyntax | apply c_eqCaptureS | apply c_eqCapture | apply c_sMatch | apply c_iMatch | apply c_markBindingS | apply c_markSyntaxS | apply c_markSyntaxSL | apply c_markSyntax | apply c_markCaptureS | apply c_markCaptureSL | apply c_heldCaptureS | apply c_heldCaptureSL)
  all_goals (try simp only [std, stdM, inj] at *)
  all_goals with_reducible repeat' apply And.intro
  all_goals (try (first | with_reducible apply c_szBindingS | with_reducible apply c_szSyntaxS | with_reducible apply c_szSyntax | with_reducible apply c_toBindingS | with_reducible apply c_toSyntaxS | with_reducible apply c_toSyntax | with_reducible apply c_eqBindingS | with_reducible apply c_eqBinding | with_reducible apply c_eqSyntaxS | with_reducible apply c_eqSyntax | with_reducible apply c_eqCaptureS | with_reducible apply c_eqCapture | with_reducible apply c_sMatch | with_reducible apply c_iMatch | with_reducible apply c_markBindingS | with_reducible apply c_markSyntaxS | with_reducible apply c_markSyntaxSL | with_reducible apply c_markSyntax | with_reducible apply c_markCaptureS | with_reducible apply c_markCaptureSL | with_reducible apply c_heldCaptureS | with_reducible apply c_heldCaptureSL | (simp only [← List.map_append]; first | with_reducible apply c_szBindingS | with_reducible apply c_szSyntaxS | with_reducible apply c_szSyntax | with_reducible apply c_toBindingS | with_reducible apply c_toSyntaxS | with_reducible apply c_toSyntax | with_reducible apply c_eqBindingS | with_reducible apply c_eqBinding | with_reducible apply c_eqSyntaxS | with_reducible apply c_eqSyntax | with_reducible apply c_eqCaptureS | with_reducible apply c_eqCapture | with_reducible apply c_sMatch | with_reducible apply c_iMatch | with_reducible apply c_markBindingS | with_reducible apply c_markSyntaxS | with_reducible apply c_markSyntaxSL | with_reducible apply c_markSyntax | with_reducible apply c_markCaptureS | with_reducible apply c_markCaptureSL | with_reducible apply c_heldCaptureS | with_reducible apply c_heldCaptureSL)))
  all_goals (try (first | exact z | ((first | refine rowGet ?_ | refine getC ?_ rfl); (first | omega | (simp only [std, stdM]; omega) | grind)) | (refine set_row ?_; (simp only [List.length_map, List.length_set, mkTo_len]; omega)) | (refine mkToRow ?_; (first | omega | (simp only [std, stdM]; omega) | grind)) | (refine mkTo_row ?_ rfl; (first | omega | (simp only [std, stdM]; omega) | grind)) | (refine mkTo_step ?_ ?_; (first | omega | (simp only [std, stdM]; omega) | grind); (first | grind [sz, seqM_idem, seqM_len, sum_seqM, snocI, snocS, rowSnoc])) | grind [sz, seqM_idem, seqM_len, sum_seqM, snocI, snocS, rowSnoc])))
end Go.Proofs.YtpnaoendfpaodaaGreat
end
section
namespace Go.Proofs.YtpnaoendfpaodaaGreat.fnExactMatchPattern
open Go Go.ChangeShapes Go.WideShapes Go.ChangeAt Go.RowKit Go.Proofs.YtpnaoendfpaodaaGreat.Ab
set_option linter.unusedVariables false
theorem own : ownKnob Tryz.prog.godebug = none := by kernel_rfl
theorem laid : laidOutB Tryz.prog = true := by kernel_rfl
theorem rowed : mapsRowed Tryz.prog = true := by kernel_rfl
theorem sized : ((List.range Tryz.prog.types.size).all fun t => match Tryz.prog.underlying t with | some (.slice e) => decide (0 < Tryz.prog.cellsOf e) | _ => true) = true := by kernel_rfl
set_option maxRecDepth 100000 in
theorem lifted (os : Os) (started : os.Started) (H : Type) (enc : TypeId × Value → H) :
    ReturnsInHanded {} Tryz.checked os 5 .any (Rows.fnExactMatchPatternSpec.pre6 enc Tryz.prog Tryz.f5 Rows.fnExactMatchPatternRow.domain false) (Rows.fnExactMatchPatternSpec.post enc Tryz.prog Tryz.f5 false true false false) := by
  refine returnsInHanded_of_change (C := Tryz.checked) own started (by kernel_rfl) Tryz.func5
    (ChangeSpec.witness6 (enc := enc) (C := Tryz.checked) false ⟨#[], #[.slice none 0 0, .slice none 0 0, .agg #[.int .i64 0, .int .i64 0, .string ⟨#[]⟩, .slice none 0 0, .slice none 0 0], .agg #[.int .i64 0, .int .i64 0, .string ⟨#[]⟩, .slice none 0 0, .slice none 0 0]], []⟩ 12 (by kernel_rfl) (by kernel_rfl) (by kernel_rfl) (by kernel_rfl)) ?_
  intro W base args ds gs before hval0 hW hcnd _
  have hval : ∀ (j : Nat) t v, Tryz.f5.params[j]? = some t → args[j]? = some v → Value.okWide Tryz.prog W .any base t v := hval0
  have hW' := hW
  obtain ⟨p, q, hA0, hV, rfl, hfz, hnd⟩ := hW
  obtain ⟨rfl, rfl⟩ := trodVars_none hV
  have hA : DataW.TrodAll enc Tryz.prog W 0 (fun _ => true) true Tryz.f5.params.toList args.toList ds p := hA0
  rw [Tryz.params5] at hA hval
  have hA2 := hA
  clear hA0 hval0
  obtain ⟨v0, vs0, d0, ds0, p0, q0, hargs0, rfl, rfl, h0, r0⟩ := trodAll_cons hA
  obtain ⟨v1, vs1, d1, ds1, p1, q1, hargs1, rfl, rfl, h1, r1⟩ := trodAll_cons r0
  obtain ⟨v2, vs2, d2, ds2, p2, q2, hargs2, rfl, rfl, h2, r2⟩ := trodAll_cons r1
  obtain ⟨v3, vs3, d3, ds3, p3, q3, hargs3, rfl, rfl, h3, r3⟩ := trodAll_cons r2
  obtain ⟨rfl, rfl, rfl⟩ := trodAll_nil r3
  obtain rfl : args = #[v0, v1, v2, v3] := by cases args; simp_all
  obtain ⟨a0, c0⟩ := (let ⟨fuel, hf⟩ := h0; rd_slice (C := bindingC) Tryz.underlying22 (by rw [show Tryz.prog.cellsOf 148 = 4 from by kernel_rfl]; decide) (fun a => by rw [bindingC_eq]; kernel_rfl) (fun m hm cs x h => by obtain ⟨a, ha⟩ := rd_binding m cs x h; exact ⟨a, by rw [bindingC_eq]; exact ha⟩) hf)
  have s0 : SVRel W (allI W) (obOf []) (ll (a0.map bindingC)) v0 := one_rel (by obtain ⟨_, _, _, rfl⟩ := okWide_slice Tryz.underlying22 (hval 0 22 v0 rfl rfl); rfl) c0
  obtain ⟨a1, c1⟩ := (let ⟨fuel, hf⟩ := h1; rd_slice (C := syntaxC) Tryz.underlying27 (by rw [show Tryz.prog.cellsOf 29 = 5 from by kernel_rfl]; decide) (fun a => by rw [syntaxC_eq]; kernel_rfl) (fun m hm cs x h => by obtain ⟨a, ha⟩ := rd_syntax m cs x h; exact ⟨a, by rw [syntaxC_eq]; exact ha⟩) hf)
  have s1 : SVRel W (allI W) (obOf []) (ll (a1.map syntaxC)) v1 := one_rel (by obtain ⟨_, _, _, rfl⟩ := okWide_slice Tryz.underlying27 (hval 1 27 v1 rfl rfl); rfl) c1
  obtain ⟨a2, c2⟩ := (let ⟨fuel, hf⟩ := h2; rd_syntax fuel _ _ hf)
  have s2 : SVRel W (allI W) (obOf []) (syntaxA a2) v2 := agg_rel (let ⟨cs, h, _⟩ := okWide_struct Tryz.underlying29 (hval 2 29 v2 rfl rfl); ⟨cs, h⟩) c2
  obtain ⟨a3, c3⟩ := (let ⟨fuel, hf⟩ := h3; rd_syntax fuel _ _ hf)
  have s3 : SVRel W (allI W) (obOf []) (syntaxA a3) v3 := agg_rel (let ⟨cs, h, _⟩ := okWide_struct Tryz.underlying29 (hval 3 29 v3 rfl rfl); ⟨cs, h⟩) c3
  refine (CallOK.kept (w := W) (vals := #[v0, v1, v2, v3]) (c_LMat a0 a1 a2 a3) ⟨s0, s1, s2, s3, trivial⟩).mono fun e W' ⟨he, hg, _⟩ => ?_
  subst he
  exact ⟨_, rfl, post_of_kept (pv := []) hW' (fun _ _ _ => (trodAll_cons_mk (shut_bool Tryz.underlying4 _) trodAll_mk0))
    (fun sp hsp => trodAll_kept laid rowed sized hg (by decide +kernel) hA2 fun y hy => hsp y (by simpa using hy)) (fun _ _ => rfl) rfl
    hg (ok_one (by kernel_rfl) rfl (okWide_bool_mk Tryz.underlying4 _))⟩
set_option maxRecDepth 100000 in
set_option maxHeartbeats 0 in
theorem facts : joinedFacts Tryz.pinned.checked.prog 5 Tryz.f5 Rows.fnExactMatchPatternSpec Rows.fnExactMatchPatternRow = true := by
  delta joinedFacts
  with_reducible repeat' apply and_i
  all_goals (first | with_reducible exact enters | (rw [makes]; kernel_rfl) | (rw [lifts]; kernel_rfl) | decide +kernel)
theorem over : Rows.fnExactMatchPatternRow.holds Tryz.pinned (OpenSpec.ofChange Rows.fnExactMatchPatternSpec) :=
  OpenClaim.holds_of_wide 5 Tryz.f5 rfl rfl rfl rfl rfl rfl rfl ⟨rfl, rfl, rfl, rfl, rfl⟩ rfl rfl rfl rfl rfl (by kernel_rfl) Tryz.func5 facts
    (of_decide_eq_true (by kernel_rfl)) (by unfold Func.isWrapper; first | (rw [if_pos (by decide +kernel)]; kernel_rfl) | (rw [if_neg (by decide +kernel)]; exact ⟨rfl, rfl⟩))
    (fun os started H enc _ => lifted os started H enc)
theorem proved : Rows.FnExactMatchPatternSaid :=
  over
end Go.Proofs.YtpnaoendfpaodaaGreat.fnExactMatchPattern
end
