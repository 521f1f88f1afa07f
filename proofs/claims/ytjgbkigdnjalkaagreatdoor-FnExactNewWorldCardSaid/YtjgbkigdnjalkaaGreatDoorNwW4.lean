/- The program's NewWorld returns what the reference's returns. No condition. -/
import Derived.Test.YtjgbkigdnjalkaaGreatDoorNwW3
import Derived.Test.YtjgbkigdnjalkaaGreatDoorCards
import Derived.Test.YtjgbkigdnjalkaaGreatDoorTie
import Derived.Deep.DeepHandedRow
import Derived.Lib.LaidTab
import Derived.Stop.LaidErr
section
namespace Go.Proofs.YtjgbkigdnjalkaaGreatDoor
open Go Go.Proofs.YtjgbkigdnjalkaaGreatDoor.Ab
set_option linter.unusedVariables false
set_option linter.unusedSimpArgs false
set_option maxHeartbeats 4000000
abbrev P_c_heldIntS (L : List Int) (n : Int) : Ct := ⟨63, [], [ll (L.map intC), li n], [], .sv (li (n + L.length))⟩
def lc_heldIntSLa (L : List Int) (n : Int) : Lp Nat := .mk 21 0 (fun x => [(0, ll (List.map intC L)), (1, hs x 1), (5, hs x 0)]) (fun x => []) (fun k => [.s (li (↑k : Int)), .s (li
 (n + (↑k : Int)))]) (fun k => k ≤ L.length ∧ L.length ≤ 9223372036854775807) (fun k => L.length - k) [.mk True (.exit 0) (fun x => [(1, hs x 0)]) (fun x => []) [.s (li (n +
 (↑L.length : Int)))], .mk False .ret (fun x => [(4, hs x 0)]) (fun x => []) [.s (li (-1 : Int))]]
theorem Sc_heldIntSLa (L : List Int) (n : Int) (h0 : 0 ≤ n) (h : n + (↑L.length : Int) ≤ 100000000000000) (hm : seqM mkI cOne L n = L) : Lp.Sem Tryz.prog (loopAt Tryz.f63 0)
 (lc_heldIntSLa L n) := lpOK (fun k => .z intC L (.i ((↑k : Int) < (↑(List.map intC L).length : Int)) (.x (↑k : Int) (List.map intC L) [cI (L.getD k 0)] (.i (L.getD k (0 : Int) ≠ n
 + (↑k : Int)) (.o 1 [] [.s (li (-1 : Int))]) (.r (n + (↑k : Int) + 1) (.r ((↑k : Int) + 1) (.g [] (k + 1) [.s (li ((↑k : Int) + 1)), .s (li (n + (↑k : Int) + 1))]))))) (.o 0 []
 [.s (li (n + (↑k : Int)))]))) (by
  intro k h; try dsimp only [teasy, nthW, lc_heldIntSLa] at h ⊢
  with_reducible repeat' (first | apply And.intro | exact zR | (intro; skip))
  all_goals (try simp only [std, stdM, inj] at *)
  all_goals with_reducible repeat' apply And.intro
  all_goals (try (first | exact z | ((first | refine rowGet ?_ | refine getC ?_ rfl); (first | omega | (simp only [std, stdM]; omega) | grind)) | (refine set_row ?_; (simp only [List.length_map, List.length_set, mkTo_len]; omega)) | (refine mkToRow ?_; (first | omega | (simp only [std, stdM]; omega) | grind)) | (refine mkTo_row ?_ rfl; (first | omega | (simp only [std, stdM]; omega) | grind)) | (refine mkTo_step ?_ ?_; (first | omega | (simp only [std, stdM]; omega) | grind); (first | grind [seqI_get hm, snocI, snocS, rowSnoc])) | grind [seqI_get hm, snocI, snocS, rowSnoc])))
theorem c_heldIntS (L : List Int) (n : Int) (h0 : 0 ≤ n) (h : n + L.length ≤ 100000000000000) (hm : seqM mkI cOne L n = L)  : P_c_heldIntS L n := fnOK Tryz.call63 Tryz.func63 (.l
 (lc_heldIntSLa L n) (Sc_heldIntSLa L n h0 h hm) [] [.s (li 0), .s (li n)] 0 (.t (.s (li (n + (↑L.length : Int)))) (.t (.s (li (-1 : Int))) .q))) (by
  dsimp only [teasy, P_c_heldIntS, nthW, lc_heldIntSLa]
  with_reducible repeat' (first | apply And.intro | exact zR | (intro; skip))
  all_goals (try simp only [std, stdM, inj] at *)
  all_goals with_reducible repeat' apply And.intro
  all_goals (try (first | exact z | ((first | refine rowGet ?_ | refine getC ?_ rfl); (first | omega | (simp only [std, stdM]; omega) | grind)) | (refine set_row ?_; (simp only [List.length_map, List.length_set, mkTo_len]; omega)) | (refine mkToRow ?_; (first | omega | (simp only [std, stdM]; omega) | grind)) | (refine mkTo_row ?_ rfl; (first | omega | (simp only [std, stdM]; omega) | grind)) | (refine mkTo_step ?_ ?_; (first | omega | (simp only [std, stdM]; omega) | grind); (first | grind [snocI, snocS, rowSnoc])) | grind [snocI, snocS, rowSnoc])))
abbrev P_c_heldDatumS (x : Datum) (n : Int) : Ct := ⟨69, [], [ll (x.items.map datumC), li n], [], .sv (li (n + sumBy cD x.items))⟩
def lc_heldDatumS_sLa (x : Datum) (n : Int) : Lp Nat := .mk 50 0 (fun x_1 => [(0, ll (List.map datumC x.items)), (1, hs x_1 1), (5, hs x_1 0)]) (fun x => []) (fun k => [.s (li (↑k
 : Int)), .s (li (n + (↑(sumBy cD (List.take k x.items)) : Int)))]) (fun k => k ≤ x.items.length ∧ x.items.length ≤ 9223372036854775807) (fun k => x.items.length - k) [.mk True
 (.exit 0) (fun x => [(1, hs x 0)]) (fun x => []) [.s (li (n + (↑(sumBy cD x.items) : Int)))], .mk False .ret (fun x => [(4, hs x 0)]) (fun x => []) [.s (li (-1 : Int))]]
theorem Sc_heldDatumS_sLa (x : Datum) (n : Int) (h0 : 0 ≤ n) (h : n + (↑(sumBy cD x.items) : Int) ≤ 100000000000000) (hm : seqM mkD cD x.items n = x.items) (ih : ∀ (z : Datum), z ∈
 x.items → ∀ (n : Int), 0 ≤ n → n + (↑(sumBy cD z.items) : Int) ≤ 100000000000000 → seqM mkD cD z.items n = z.items → OK (P_c_heldDatumS z n)) : Lp.Sem Tryz.prog (loopAt Tryz.f69
 0) (lc_heldDatumS_sLa x n) := lpOK (fun k => .z datumC x.items (.i ((↑k : Int) < (↑(List.map datumC x.items).length : Int)) (.x (↑k : Int) (List.map datumC x.items) (datumF
 (x.items.getD k default)) (.i ((x.items.getD k default).kind ≠ n + (↑(sumBy cD (List.take k x.items)) : Int)) (.o 1 [] [.s (li (-1 : Int))]) (.r (n + (↑(sumBy cD (List.take k
 x.items)) : Int) + 1) (.x (↑k : Int) (List.map datumC x.items) (datumF (x.items.getD k default)) (.i ((x.items.getD k default).number ≠ n + (↑(sumBy cD (List.take k x.items)) :
 Int) + 1) (.o 1 [] [.s (li (-1 : Int))]) (.r (n + (↑(sumBy cD (List.take k x.items)) : Int) + 1 + 1) (.w (.draw []) (.x (↑k : Int) (List.map datumC x.items) (datumF (x.items.getD
 k default)) (.d [.rd] (P_c_markText (n + (↑(sumBy cD (List.take k x.items)) : Int) + 1 + 1)) (.i ((x.items.getD k default).text.data.toList ≠ (mText (n + (↑(sumBy cD (List.take k
 x.items)) : Int) + 1 + 1)).data.toList) (.o 1 [] [.s (li (-1 : Int))]) (.r (n + (↑(sumBy cD (List.take k x.items)) : Int) + 1 + 1 + 1) (.x (↑k : Int) (List.map datumC x.items)
 (datumF (x.items.getD k default)) (.d [.rd, .rd] (P_c_heldDatumS (x.items.getD k default) (n + (↑(sumBy cD (List.take k x.items)) : Int) + 1 + 1 + 1)) (.i (n + (↑(sumBy cD
 (List.take k x.items)) : Int) + 1 + 1 + 1 + (↑(sumBy cD (x.items.getD k default).items) : Int) < 0) (.o 1 [] [.s (li (-1 : Int))]) (.r ((↑k : Int) + 1) (.g [] (k + 1) [.s (li ((↑k
 : Int) + 1)), .s (li (n + (↑(sumBy cD (List.take k x.items)) : Int) + 1 + 1 + 1 + (↑(sumBy cD (x.items.getD k default).items) : Int)))])))))))))))))))) (.o 0 [] [.s (li (n +
 (↑(sumBy cD (List.take k x.items)) : Int)))]))) (by
  intro k h; try dsimp only [teasy, nthW, lc_heldDatumS_sLa] at h ⊢
  have g0 := sumBy_takeLe cD x.items (k + 1)
  have g1 := fun hk : k < x.items.length => mkD_fix (seqM_get hm hk)
  with_reducible repeat' (first | apply And.intro | exact zR | exact ih | (intro; skip) | apply c_markText | apply ih)
  all_goals (try simp only [std, stdM, inj] at *)
  all_goals with_reducible repeat' apply And.intro
  all_goals (try (first | with_reducible apply c_markText | with_reducible apply ih | (simp only [← List.map_append]; first | with_reducible apply c_markText | with_reducible apply ih)))
  all_goals (try (first | exact z | ((first | refine rowGet ?_ | refine getC ?_ rfl); (first | omega | (simp only [std, stdM]; omega) | grind)) | (refine set_row ?_; (simp only [List.length_map, List.length_set, mkTo_len]; omega)) | (refine mkToRow ?_; (first | omega | (simp only [std, stdM]; omega) | grind)) | (refine mkTo_row ?_ rfl; (first | omega | (simp only [std, stdM]; omega) | grind)) | (refine mkTo_step ?_ ?_; (first | omega | (simp only [std, stdM]; omega) | grind); (first | grind [sumBy_step, getD_mem', cD_eq, snocI, snocS, rowSnoc])) | grind [sumBy_step, getD_mem', cD_eq, snocI, snocS, rowSnoc])))
theorem c_heldDatumS_s (x : Datum) (n : Int) (h0 : 0 ≤ n) (h : n + sumBy cD x.items ≤ 100000000000000) (hm : seqM mkD cD x.items n = x.items) (ih : ∀ z ∈ x.items, ∀ (n : Int) (h0 :
 0 ≤ n) (h : n + sumBy cD z.items ≤ 100000000000000) (hm : seqM mkD cD z.items n = z.items), P_c_heldDatumS z n)  : P_c_heldDatumS x n := fnOK Tryz.call69 Tryz.func69 (.l
 (lc_heldDatumS_sLa x n) (Sc_heldDatumS_sLa x n h0 h hm ih) [] [.s (li 0), .s (li n)] 0 (.t (.s (li (n + (↑(sumBy cD x.items) : Int)))) (.t (.s (li (-1 : Int))) .q))) (by
  dsimp only [teasy, P_c_heldDatumS, nthW, lc_heldDatumS_sLa]
  have gl := cD_len x.items
  with_reducible repeat' (first | apply And.intro | exact zR | exact ih | (intro; skip) | apply c_markText)
  all_goals (try simp only [std, stdM, inj] at *)
  all_goals with_reducible repeat' apply And.intro
  all_goals (try (first | with_reducible apply c_markText | with_reducible apply ih | (simp only [← List.map_append]; first | with_reducible apply c_markText | with_reducible apply ih)))
  all_goals (try (first | exact z | ((first | refine rowGet ?_ | refine getC ?_ rfl); (first | omega | (simp only [std, stdM]; omega) | grind)) | (refine set_row ?_; (simp only [List.length_map, List.length_set, mkTo_len]; omega)) | (refine mkToRow ?_; (first | omega | (simp only [std, stdM]; omega) | grind)) | (refine mkTo_row ?_ rfl; (first | omega | (simp only [std, stdM]; omega) | grind)) | (refine mkTo_step ?_ ?_; (first | omega | (simp only [std, stdM]; omega) | grind); (first | grind [mkTo_all, snocI, snocS, rowSnoc])) | grind [mkTo_all, snocI, snocS, rowSnoc])))
theorem c_heldDatumS (x : Datum) : ∀ (n : Int) (h0 : 0 ≤ n) (h : n + sumBy cD x.items ≤ 100000000000000) (hm : seqM mkD cD x.items n = x.items), P_c_heldDatumS x n := Datum.ind (P := fun x => ∀ (n : Int) (h0 : 0 ≤ n) (h : n + sumBy cD x.items ≤ 100000000000000) (hm : seqM mkD cD x.items n = x.items), P_c_heldDatumS x n) (fun x ih n h0 h hm => c_heldDatumS_s x n h0 h hm ih) x
theorem c_heldDatumSL (L : List Datum) (n : Int) (h0 : 0 ≤ n) (h : n + sumBy cD L ≤ 100000000000000) (hm : seqM mkD cD L n = L) : P_c_heldDatumS { (default : Datum) with items := L } n := c_heldDatumS { (default : Datum) with items := L } n h0 h hm
abbrev P_c_heldCoreS (x : Core) (n : Int) : Ct := ⟨70, [], [ll (x.kids.map coreC), li n], [], .sv (li (n + sumBy cC x.kids))⟩
def lc_heldCoreS_sLa (x : Core) (n : Int) : Lp Nat := .mk 90 0 (fun x_1 => [(0, ll (List.map coreC x.kids)), (1, hs x_1 1), (5, hs x_1 0)]) (fun x => []) (fun k => [.s (li (↑k :
 Int)), .s (li (n + (↑(sumBy cC (List.take k x.kids)) : Int)))]) (fun k => k ≤ x.kids.length ∧ x.kids.length ≤ 9223372036854775807) (fun k => x.kids.length - k) [.mk True (.exit 0)
 (fun x => [(1, hs x 0)]) (fun x => []) [.s (li (n + (↑(sumBy cC x.kids) : Int)))], .mk False .ret (fun x => [(4, hs x 0)]) (fun x => []) [.s (li (-1 : Int))]]
theorem Sc_heldCoreS_sLa (x : Core) (n : Int) (h0 : 0 ≤ n) (h : n + (↑(sumBy cC x.kids) : Int) ≤ 100000000000000) (hm : seqM mkC cC x.kids n = x.kids) (ih : ∀ (z : Core), z ∈
 x.kids → ∀ (n : Int), 0 ≤ n → n + (↑(sumBy cC z.kids) : Int) ≤ 100000000000000 → seqM mkC cC z.kids n = z.kids → OK (P_c_heldCoreS z n)) : Lp.Sem Tryz.prog (loopAt Tryz.f70 0)
 (lc_heldCoreS_sLa x n) := lpOK (fun k => .z coreC x.kids (.i ((↑k : Int) < (↑(List.map coreC x.kids).length : Int)) (.x (↑k : Int) (List.map coreC x.kids) (coreF (x.kids.getD k
 default)) (.i ((x.kids.getD k default).kind ≠ n + (↑(sumBy cC (List.take k x.kids)) : Int)) (.o 1 [] [.s (li (-1 : Int))]) (.r (n + (↑(sumBy cC (List.take k x.kids)) : Int) + 1)
 (.x (↑k : Int) (List.map coreC x.kids) (coreF (x.kids.getD k default)) (.i ((x.kids.getD k default).number ≠ n + (↑(sumBy cC (List.take k x.kids)) : Int) + 1) (.o 1 [] [.s (li (-1
 : Int))]) (.r (n + (↑(sumBy cC (List.take k x.kids)) : Int) + 1 + 1) (.x (↑k : Int) (List.map coreC x.kids) (coreF (x.kids.getD k default)) (.d [.rd, .rd] (P_c_heldIntS
 (x.kids.getD k default).params (n + (↑(sumBy cC (List.take k x.kids)) : Int) + 1 + 1)) (.i (n + (↑(sumBy cC (List.take k x.kids)) : Int) + 1 + 1 + (↑(x.kids.getD k
 default).params.length : Int) < 0) (.o 1 [] [.s (li (-1 : Int))]) (.x (↑k : Int) (List.map coreC x.kids) (coreF (x.kids.getD k default)) (.i ((x.kids.getD k default).datum.kind ≠
 n + (↑(sumBy cC (List.take k x.kids)) : Int) + 1 + 1 + (↑(x.kids.getD k default).params.length : Int)) (.o 1 [] [.s (li (-1 : Int))]) (.r (n + (↑(sumBy cC (List.take k x.kids)) :
 Int) + 1 + 1 + (↑(x.kids.getD k default).params.length : Int) + 1) (.x (↑k : Int) (List.map coreC x.kids) (coreF (x.kids.getD k default)) (.i ((x.kids.getD k default).datum.number
 ≠ n + (↑(sumBy cC (List.take k x.kids)) : Int) + 1 + 1 + (↑(x.kids.getD k default).params.length : Int) + 1) (.o 1 [] [.s (li (-1 : Int))]) (.r (n + (↑(sumBy cC (List.take k
 x.kids)) : Int) + 1 + 1 + (↑(x.kids.getD k default).params.length : Int) + 1 + 1) (.w (.draw []) (.x (↑k : Int) (List.map coreC x.kids) (coreF (x.kids.getD k default)) (.d [.rd]
 (P_c_markText (n + (↑(sumBy cC (List.take k x.kids)) : Int) + 1 + 1 + (↑(x.kids.getD k default).params.length : Int) + 1 + 1)) (.i ((x.kids.getD k default).datum.text.data.toList
 ≠ (mText (n + (↑(sumBy cC (List.take k x.kids)) : Int) + 1 + 1 + (↑(x.kids.getD k default).params.length : Int) + 1 + 1)).data.toList) (.o 1 [] [.s (li (-1 : Int))]) (.r (n +
 (↑(sumBy cC (List.take k x.kids)) : Int) + 1 + 1 + (↑(x.kids.getD k default).params.length : Int) + 1 + 1 + 1) (.x (↑k : Int) (List.map coreC x.kids) (coreF (x.kids.getD k
 default)) (.d [.rd, .rd] (P_c_heldDatumS (x.kids.getD k default).datum (n + (↑(sumBy cC (List.take k x.kids)) : Int) + 1 + 1 + (↑(x.kids.getD k default).params.length : Int) + 1 +
 1 + 1)) (.i (n + (↑(sumBy cC (List.take k x.kids)) : Int) + 1 + 1 + (↑(x.kids.getD k default).params.length : Int) + 1 + 1 + 1 + (↑(sumBy cD (x.kids.getD k default).datum.items) :
 Int) < 0) (.o 1 [] [.s (li (-1 : Int))]) (.x (↑k : Int) (List.map coreC x.kids) (coreF (x.kids.getD k default)) (.d [.rd, .rd] (P_c_heldCoreS (x.kids.getD k default) (n + (↑(sumBy
 cC (List.take k x.kids)) : Int) + 1 + 1 + (↑(x.kids.getD k default).params.length : Int) + 1 + 1 + 1 + (↑(sumBy cD (x.kids.getD k default).datum.items) : Int))) (.i (n + (↑(sumBy
 cC (List.take k x.kids)) : Int) + 1 + 1 + (↑(x.kids.getD k default).params.length : Int) + 1 + 1 + 1 + (↑(sumBy cD (x.kids.getD k default).datum.items) : Int) + (↑(sumBy cC
 (x.kids.getD k default).kids) : Int) < 0) (.o 1 [] [.s (li (-1 : Int))]) (.r ((↑k : Int) + 1) (.g [] (k + 1) [.s (li ((↑k : Int) + 1)), .s (li (n + (↑(sumBy cC (List.take k
 x.kids)) : Int) + 1 + 1 + (↑(x.kids.getD k default).params.length : Int) + 1 + 1 + 1 + (↑(sumBy cD (x.kids.getD k default).datum.items) : Int) + (↑(sumBy cC (x.kids.getD k
 default).kids) : Int)))])))))))))))))))))))))))))))) (.o 0 [] [.s (li (n + (↑(sumBy cC (List.take k x.kids)) : Int)))]))) (by
  intro k h; try dsimp only [teasy, nthW, lc_heldCoreS_sLa] at h ⊢
  have g0 := sumBy_takeLe cC x.kids (k + 1)
  have g1 := fun hk : k < x.kids.length => mkC_fix (seqM_get hm hk)
  with_reducible repeat' (first | apply And.intro | exact zR | exact ih | (intro; skip) | apply c_heldIntS | apply c_markText | apply c_heldDatumS | apply c_heldDatumSL | apply ih)
  all_goals (try simp only [std, stdM, inj] at *)
  all_goals with_reducible repeat' apply And.intro
  all_goals (try (first | with_reducible apply c_heldIntS | with_reducible apply c_markText | with_reducible apply c_heldDatumS | with_reducible apply c_heldDatumSL | with_reducible apply ih | (simp only [← List.map_append]; first | with_reducible apply c_heldIntS | with_reducible apply c_markText | with_reducible apply c_heldDatumS | with_reducible apply c_heldDatumSL | with_reducible apply ih)))
  all_goals (try (first | exact z | ((first | refine rowGet ?_ | refine getC ?_ rfl); (first | omega | (simp only [std, stdM]; omega) | grind)) | (refine set_row ?_; (simp only [List.length_map, List.length_set, mkTo_len]; omega)) | (refine mkToRow ?_; (first | omega | (simp only [std, stdM]; omega) | grind)) | (refine mkTo_row ?_ rfl; (first | omega | (simp only [std, stdM]; omega) | grind)) | (refine mkTo_step ?_ ?_; (first | omega | (simp only [std, stdM]; omega) | grind); (first | grind [sumBy_step, getD_mem', cC_eq, snocI, snocS, rowSnoc])) | grind [sumBy_step, getD_mem', cC_eq, snocI, snocS, rowSnoc])))
theorem c_heldCoreS_s (x : Core) (n : Int) (h0 : 0 ≤ n) (h : n + sumBy cC x.kids ≤ 100000000000000) (hm : seqM mkC cC x.kids n = x.kids) (ih : ∀ z ∈ x.kids, ∀ (n : Int) (h0 : 0 ≤
 n) (h : n + sumBy cC z.kids ≤ 100000000000000) (hm : seqM mkC cC z.kids n = z.kids), P_c_heldCoreS z n)  : P_c_heldCoreS x n := fnOK Tryz.call70 Tryz.func70 (.l (lc_heldCoreS_sLa x
 n) (Sc_heldCoreS_sLa x n h0 h hm ih) [] [.s (li 0), .s (li n)] 0 (.t (.s (li (n + (↑(sumBy cC x.kids) : Int)))) (.t (.s (li (-1 : Int))) .q))) (by
  dsimp only [teasy, P_c_heldCoreS, nthW, lc_heldCoreS_sLa]
  have gl := cC_len x.kids
  with_reducible repeat' (first | apply And.intro | exact zR | exact ih | (intro; skip) | apply c_heldIntS | apply c_markText | apply c_heldDatumS | apply c_heldDatumSL)
  all_goals (try simp only [std, stdM, inj] at *)
  all_goals with_reducible repeat' apply And.intro
  all_goals (try (first | with_reducible apply c_heldIntS | with_reducible apply c_markText | with_reducible apply c_heldDatumS | with_reducible apply c_heldDatumSL | with_reducible apply ih | (simp only [← List.map_append]; first | with_reducible apply c_heldIntS | with_reducible apply c_markText | with_reducible apply c_heldDatumS | with_reducible apply c_heldDatumSL | with_reducible apply ih)))
  all_goals (try (first | exact z | ((first | refine rowGet ?_ | refine getC ?_ rfl); (first | omega | (simp only [std, stdM]; omega) | grind)) | (refine set_row ?_; (simp only [List.length_map, List.length_set, mkTo_len]; omega)) | (refine mkToRow ?_; (first | omega | (simp only [std, stdM]; omega) | grind)) | (refine mkTo_row ?_ rfl; (first | omega | (simp only [std, stdM]; omega) | grind)) | (refine mkTo_step ?_ ?_; (first | omega | (simp only [std, stdM]; omega) | grind); (first | grind [mkTo_all, snocI, snocS, rowSnoc])) | grind [mkTo_all, snocI, snocS, rowSnoc])))
theorem c_heldCoreS (x : Core) : ∀ (n : Int) (h0 : 0 ≤ n) (h : n + sumBy cC x.kids ≤ 100000000000000) (hm : seqM mkC cC x.kids n = x.kids), P_c_heldCoreS x n := Core.ind (P := fun x => ∀ (n : Int) (h0 : 0 ≤ n) (h : n + sumBy cC x.kids ≤ 100000000000000) (hm : seqM mkC cC x.kids n = x.kids), P_c_heldCoreS x n) (fun x ih n h0 h hm => c_heldCoreS_s x n h0 h hm ih) x
theorem c_heldCoreSL (L : List Core) (n : Int) (h0 : 0 ≤ n) (h : n + sumBy cC L ≤ 100000000000000) (hm : seqM mkC cC L n = L) : P_c_heldCoreS { (default : Core) with kids := L } n := c_heldCoreS { (default : Core) with kids := L } n h0 h hm
abbrev P_c_heldSyntaxS (x : Syntax) (n : Int) : Ct := ⟨64, [], [ll (x.items.map syntaxC), li n], [], .sv (li (n + sumBy cY x.items))⟩
def lc_heldSyntaxS_sLa (x : Syntax) (n : Int) : Lp Nat := .mk 59 0 (fun x_1 => [(0, ll (List.map syntaxC x.items)), (1, hs x_1 1), (5, hs x_1 0)]) (fun x => []) (fun k => [.s (li
 (↑k : Int)), .s (li (n + (↑(sumBy cY (List.take k x.items)) : Int)))]) (fun k => k ≤ x.items.length ∧ x.items.length ≤ 9223372036854775807) (fun k => x.items.length - k) [.mk True
 (.exit 0) (fun x => [(1, hs x 0)]) (fun x => []) [.s (li (n + (↑(sumBy cY x.items) : Int)))], .mk False .ret (fun x => [(4, hs x 0)]) (fun x => []) [.s (li (-1 : Int))]]
theorem Sc_heldSyntaxS_sLa (x : Syntax) (n : Int) (h0 : 0 ≤ n) (h : n + (↑(sumBy cY x.items) : Int) ≤ 100000000000000) (hm : seqM mkY cY x.items n = x.items) (ih : ∀ (z : Syntax),
 z ∈ x.items → ∀ (n : Int), 0 ≤ n → n + (↑(sumBy cY z.items) : Int) ≤ 100000000000000 → seqM mkY cY z.items n = z.items → OK (P_c_heldSyntaxS z n)) : Lp.Sem Tryz.prog (loopAt
 Tryz.f64 0) (lc_heldSyntaxS_sLa x n) := lpOK (fun k => .z syntaxC x.items (.i ((↑k : Int) < (↑(List.map syntaxC x.items).length : Int)) (.x (↑k : Int) (List.map syntaxC x.items)
 (syntaxF (x.items.getD k default)) (.i ((x.items.getD k default).kind ≠ n + (↑(sumBy cY (List.take k x.items)) : Int)) (.o 1 [] [.s (li (-1 : Int))]) (.r (n + (↑(sumBy cY
 (List.take k x.items)) : Int) + 1) (.x (↑k : Int) (List.map syntaxC x.items) (syntaxF (x.items.getD k default)) (.i ((x.items.getD k default).number ≠ n + (↑(sumBy cY (List.take k
 x.items)) : Int) + 1) (.o 1 [] [.s (li (-1 : Int))]) (.r (n + (↑(sumBy cY (List.take k x.items)) : Int) + 1 + 1) (.w (.draw []) (.x (↑k : Int) (List.map syntaxC x.items) (syntaxF
 (x.items.getD k default)) (.d [.rd] (P_c_markText (n + (↑(sumBy cY (List.take k x.items)) : Int) + 1 + 1)) (.i ((x.items.getD k default).text.data.toList ≠ (mText (n + (↑(sumBy cY
 (List.take k x.items)) : Int) + 1 + 1)).data.toList) (.o 1 [] [.s (li (-1 : Int))]) (.r (n + (↑(sumBy cY (List.take k x.items)) : Int) + 1 + 1 + 1) (.x (↑k : Int) (List.map
 syntaxC x.items) (syntaxF (x.items.getD k default)) (.d [.rd, .rd] (P_c_heldIntS (x.items.getD k default).scopes (n + (↑(sumBy cY (List.take k x.items)) : Int) + 1 + 1 + 1)) (.i
 (n + (↑(sumBy cY (List.take k x.items)) : Int) + 1 + 1 + 1 + (↑(x.items.getD k default).scopes.length : Int) < 0) (.o 1 [] [.s (li (-1 : Int))]) (.x (↑k : Int) (List.map syntaxC
 x.items) (syntaxF (x.items.getD k default)) (.d [.rd, .rd] (P_c_heldSyntaxS (x.items.getD k default) (n + (↑(sumBy cY (List.take k x.items)) : Int) + 1 + 1 + 1 + (↑(x.items.getD k
 default).scopes.length : Int))) (.i (n + (↑(sumBy cY (List.take k x.items)) : Int) + 1 + 1 + 1 + (↑(x.items.getD k default).scopes.length : Int) + (↑(sumBy cY (x.items.getD k
 default).items) : Int) < 0) (.o 1 [] [.s (li (-1 : Int))]) (.r ((↑k : Int) + 1) (.g [] (k + 1) [.s (li ((↑k : Int) + 1)), .s (li (n + (↑(sumBy cY (List.take k x.items)) : Int) + 1
 + 1 + 1 + (↑(x.items.getD k default).scopes.length : Int) + (↑(sumBy cY (x.items.getD k default).items) : Int)))]))))))))))))))))))) (.o 0 [] [.s (li (n + (↑(sumBy cY (List.take k
 x.items)) : Int)))]))) (by
  intro k h; try dsimp only [teasy, nthW, lc_heldSyntaxS_sLa] at h ⊢
  have g0 := sumBy_takeLe cY x.items (k + 1)
  have g1 := fun hk : k < x.items.length => mkY_fix (seqM_get hm hk)
  with_reducible repeat' (first | apply And.intro | exact zR | exact ih | (intro; skip) | apply c_markText | apply c_heldIntS | apply ih)
  all_goals (try simp only [std, stdM, inj] at *)
  all_goals with_reducible repeat' apply And.intro
  all_goals (try (first | with_reducible apply c_markText | with_reducible apply c_heldIntS | with_reducible apply ih | (simp only [← List.map_append]; first | with_reducible apply c_markText | with_reducible apply c_heldIntS | with_reducible apply ih)))
  all_goals (try (first | exact z | ((first | refine rowGet ?_ | refine getC ?_ rfl); (first | omega | (simp only [std, stdM]; omega) | grind)) | (refine set_row ?_; (simp only [List.length_map, List.length_set, mkTo_len]; omega)) | (refine mkToRow ?_; (first | omega | (simp only [std, stdM]; omega) | grind)) | (refine mkTo_row ?_ rfl; (first | omega | (simp only [std, stdM]; omega) | grind)) | (refine mkTo_step ?_ ?_; (first | omega | (simp only [std, stdM]; omega) | grind); (first | grind [sumBy_step, getD_mem', cY_eq, snocI, snocS, rowSnoc])) | grind [sumBy_step, getD_mem', cY_eq, snocI, snocS, rowSnoc])))
theorem c_heldSyntaxS_s (x : Syntax) (n : Int) (h0 : 0 ≤ n) (h : n + sumBy cY x.items ≤ 100000000000000) (hm : seqM mkY cY x.items n = x.items) (ih : ∀ z ∈ x.items, ∀ (n : Int) (h0
 : 0 ≤ n) (h : n + sumBy cY z.items ≤ 100000000000000) (hm : seqM mkY cY z.items n = z.items), P_c_heldSyntaxS z n)  : P_c_heldSyntaxS x n := fnOK Tryz.call64 Tryz.func64 (.l
 (lc_heldSyntaxS_sLa x n) (Sc_heldSyntaxS_sLa x n h0 h hm ih) [] [.s (li 0), .s (li n)] 0 (.t (.s (li (n + (↑(sumBy cY x.items) : Int)))) (.t (.s (li (-1 : Int))) .q))) (by
  dsimp only [teasy, P_c_heldSyntaxS, nthW, lc_heldSyntaxS_sLa]
  have gl := cY_len x.items
  with_reducible repeat' (first | apply And.intro | exact zR | exact ih | (intro; skip) | apply c_markText | apply c_heldIntS)
  all_goals (try simp only [std, stdM, inj] at *)
  all_goals with_reducible repeat' apply And.intro
  all_goals (try (first | with_reducible apply c_markText | with_reducible apply c_heldIntS | with_reducible apply ih | (simp only [← List.map_append]; first | with_reducible apply c_markText | with_reducible apply c_heldIntS | with_reducible apply ih)))
  all_goals (try (first | exact z | ((first | refine rowGet ?_ | refine getC ?_ rfl); (first | omega | (simp only [std, stdM]; omega) | grind)) | (refine set_row ?_; (simp only [List.length_map, List.length_set, mkTo_len]; omega)) | (refine mkToRow ?_; (first | omega | (simp only [std, stdM]; omega) | grind)) | (refine mkTo_row ?_ rfl; (first | omega | (simp only [std, stdM]; omega) | grind)) | (refine mkTo_step ?_ ?_; (first | omega | (simp only [std, stdM]; omega) | grind); (first | grind [mkTo_all, snocI, snocS, rowSnoc])) | grind [mkTo_all, snocI, snocS, rowSnoc])))
theorem c_heldSyntaxS (x : Syntax) : ∀ (n : Int) (h0 : 0 ≤ n) (h : n + sumBy cY x.items ≤ 100000000000000) (hm : seqM mkY cY x.items n = x.items), P_c_heldSyntaxS x n := Syntax.ind (P := fun x => ∀ (n : Int) (h0 : 0 ≤ n) (h : n + sumBy cY x.items ≤ 100000000000000) (hm : seqM mkY cY x.items n = x.items), P_c_heldSyntaxS x n) (fun x ih n h0 h hm => c_heldSyntaxS_s x n h0 h hm ih) x
theorem c_heldSyntaxSL (L : List Syntax) (n : Int) (h0 : 0 ≤ n) (h : n + sumBy cY L ≤ 100000000000000) (hm : seqM mkY cY L n = L) : P_c_heldSyntaxS { (default : Syntax) with items := L } n := c_heldSyntaxS { (default : Syntax) with items := L } n h0 h hm
abbrev P_c_heldBindingS (L : List Binding) (n : Int) : Ct := ⟨30, [], [ll (L.map bindingC), li n], [], .sv (li (n + sumBy cB L))⟩
def lc_heldBindingSLa (L : List Binding) (n : Int) : Lp Nat := .mk 50 0 (fun x => [(0, ll (List.map bindingC L)), (1, hs x 1), (5, hs x 0)]) (fun x => []) (fun k => [.s (li (↑k :
 Int)), .s (li (n + (↑(sumBy cB (List.take k L)) : Int)))]) (fun k => k ≤ L.length ∧ L.length ≤ 9223372036854775807) (fun k => L.length - k) [.mk True (.exit 0) (fun x => [(1, hs x
 0)]) (fun x => []) [.s (li (n + (↑(sumBy cB L) : Int)))], .mk False .ret (fun x => [(4, hs x 0)]) (fun x => []) [.s (li (-1 : Int))]]
theorem Sc_heldBindingSLa (L : List Binding) (n : Int) (h0 : 0 ≤ n) (h : n + (↑(sumBy cB L) : Int) ≤ 100000000000000) (hm : seqM mkB cB L n = L) : Lp.Sem Tryz.prog (loopAt Tryz.f30
 0) (lc_heldBindingSLa L n) := lpOK (fun k => .z bindingC L (.i ((↑k : Int) < (↑(List.map bindingC L).length : Int)) (.w (.draw []) (.x (↑k : Int) (List.map bindingC L) (bindingF
 (L.getD k default)) (.d [.rd] (P_c_markText (n + (↑(sumBy cB (List.take k L)) : Int))) (.i ((L.getD k default).text.data.toList ≠ (mText (n + (↑(sumBy cB (List.take k L)) :
 Int))).data.toList) (.o 1 [] [.s (li (-1 : Int))]) (.r (n + (↑(sumBy cB (List.take k L)) : Int) + 1) (.x (↑k : Int) (List.map bindingC L) (bindingF (L.getD k default)) (.d [.rd,
 .rd] (P_c_heldIntS (L.getD k default).scopes (n + (↑(sumBy cB (List.take k L)) : Int) + 1)) (.i (n + (↑(sumBy cB (List.take k L)) : Int) + 1 + (↑(L.getD k default).scopes.length :
 Int) < 0) (.o 1 [] [.s (li (-1 : Int))]) (.x (↑k : Int) (List.map bindingC L) (bindingF (L.getD k default)) (.i ((L.getD k default).kind ≠ n + (↑(sumBy cB (List.take k L)) : Int)
 + 1 + (↑(L.getD k default).scopes.length : Int)) (.o 1 [] [.s (li (-1 : Int))]) (.r (n + (↑(sumBy cB (List.take k L)) : Int) + 1 + (↑(L.getD k default).scopes.length : Int) + 1)
 (.x (↑k : Int) (List.map bindingC L) (bindingF (L.getD k default)) (.i ((L.getD k default).number ≠ n + (↑(sumBy cB (List.take k L)) : Int) + 1 + (↑(L.getD k
 default).scopes.length : Int) + 1) (.o 1 [] [.s (li (-1 : Int))]) (.r (n + (↑(sumBy cB (List.take k L)) : Int) + 1 + (↑(L.getD k default).scopes.length : Int) + 1 + 1) (.r ((↑k :
 Int) + 1) (.g [] (k + 1) [.s (li ((↑k : Int) + 1)), .s (li (n + (↑(sumBy cB (List.take k L)) : Int) + 1 + (↑(L.getD k default).scopes.length : Int) + 1 + 1))])))))))))))))))) (.o
 0 [] [.s (li (n + (↑(sumBy cB (List.take k L)) : Int)))]))) (by
  intro k h; try dsimp only [teasy, nthW, lc_heldBindingSLa] at h ⊢
  have g0 := sumBy_takeLe cB L (k + 1)
  have g1 := fun hk : k < L.length => mkB_fix (seqM_get hm hk)
  with_reducible repeat' (first | apply And.intro | exact zR | (intro; skip) | apply c_markText | apply c_heldIntS)
  all_goals (try simp only [std, stdM, inj] at *)
  all_goals with_reducible repeat' apply And.intro
  all_goals (try (first | with_reducible apply c_markText | with_reducible apply c_heldIntS | (simp only [← List.map_append]; first | with_reducible apply c_markText | with_reducible apply c_heldIntS)))
  all_goals (try (first | exact z | ((first | refine rowGet ?_ | refine getC ?_ rfl); (first | omega | (simp only [std, stdM]; omega) | grind)) | (refine set_row ?_; (simp only [List.length_map, List.length_set, mkTo_len]; omega)) | (refine mkToRow ?_; (first | omega | (simp only [std, stdM]; omega) | grind)) | (refine mkTo_row ?_ rfl; (first | omega | (simp only [std, stdM]; omega) | grind)) | (refine mkTo_step ?_ ?_; (first | omega | (simp only [std, stdM]; omega) | grind); (first | grind [sumBy_step, getD_mem', cB_eq, snocI, snocS, rowSnoc])) | grind [sumBy_step, getD_mem', cB_eq, snocI, snocS, rowSnoc])))
theorem c_heldBindingS (L : List Binding) (n : Int) (h0 : 0 ≤ n) (h : n + sumBy cB L ≤ 100000000000000) (hm : seqM mkB cB L n = L)  : P_c_heldBindingS L n := fnOK Tryz.call30
 Tryz.func30 (.l (lc_heldBindingSLa L n) (Sc_heldBindingSLa L n h0 h hm) [] [.s (li 0), .s (li n)] 0 (.t (.s (li (n + (↑(sumBy cB L) : Int)))) (.t (.s (li (-1 : Int))) .q))) (by
  dsimp only [teasy, P_c_heldBindingS, nthW, lc_heldBindingSLa]
  have gl := cB_len L
  with_reducible repeat' (first | apply And.intro | exact zR | (intro; skip) | apply c_markText | apply c_heldIntS)
  all_goals (try simp only [std, stdM, inj] at *)
  all_goals with_reducible repeat' apply And.intro
  all_goals (try (first | with_reducible apply c_markText | with_reducible apply c_heldIntS | (simp only [← List.map_append]; first | with_reducible apply c_markText | with_reducible apply c_heldIntS)))
  all_goals (try (first | exact z | ((first | refine rowGet ?_ | refine getC ?_ rfl); (first | omega | (simp only [std, stdM]; omega) | grind)) | (refine set_row ?_; (simp only [List.length_map, List.length_set, mkTo_len]; omega)) | (refine mkToRow ?_; (first | omega | (simp only [std, stdM]; omega) | grind)) | (refine mkTo_row ?_ rfl; (first | omega | (simp only [std, stdM]; omega) | grind)) | (refine mkTo_step ?_ ?_; (first | omega | (simp only [std, stdM]; omega) | grind); (first | grind [mkTo_all, snocI, snocS, rowSnoc])) | grind [mkTo_all, snocI, snocS, rowSnoc])))
abbrev P_c_heldRulesS (L : List Rules) (n : Int) : Ct := ⟨31, [], [ll (L.map rulesC), li n], [], .sv (li (n + sumBy cR L))⟩
def lc_heldRulesSLa (L : List Rules) (n : Int) : Lp Nat := .mk 40 0 (fun x => [(0, ll (List.map rulesC L)), (1, hs x 1), (5, hs x 0)]) (fun x => []) (fun k => [.s (li (↑k : Int)),
 .s (li (n + (↑(sumBy cR (List.take k L)) : Int)))]) (fun k => k ≤ L.length ∧ L.length ≤ 9223372036854775807) (fun k => L.length - k) [.mk True (.exit 0) (fun x => [(1, hs x 0)])
 (fun x => []) [.s (li (n + (↑(sumBy cR L) : Int)))], .mk False .ret (fun x => [(4, hs x 0)]) (fun x => []) [.s (li (-1 : Int))]]
theorem Sc_heldRulesSLa (L : List Rules) (n : Int) (h0 : 0 ≤ n) (h : n + (↑(sumBy cR L) : Int) ≤ 100000000000000) (h2 : L.length ≤ 2147483647) (hm : seqM mkR cR L n = L) : Lp.Sem
 Tryz.prog (loopAt Tryz.f31 0) (lc_heldRulesSLa L n) := lpOK (fun k => .z rulesC L (.i ((↑k : Int) < (↑(List.map rulesC L).length : Int)) (.x (↑k : Int) (List.map rulesC L) (rulesF
 (L.getD k default)) (.d [.rd, .rd] (P_c_heldSyntaxS (Syntax.mk 0 0 default [] (L.getD k default).literals) (n + (↑(sumBy cR (List.take k L)) : Int))) (.i (n + (↑(sumBy cR
 (List.take k L)) : Int) + (↑(sumBy cY (L.getD k default).literals) : Int) < 0) (.o 1 [] [.s (li (-1 : Int))]) (.x (↑k : Int) (List.map rulesC L) (rulesF (L.getD k default)) (.d
 [.rd, .rd] (P_c_heldSyntaxS (Syntax.mk 0 0 default [] (L.getD k default).patterns) (n + (↑(sumBy cR (List.take k L)) : Int) + (↑(sumBy cY (L.getD k default).literals) : Int))) (.i
 (n + (↑(sumBy cR (List.take k L)) : Int) + (↑(sumBy cY (L.getD k default).literals) : Int) + (↑(sumBy cY (L.getD k default).patterns) : Int) < 0) (.o 1 [] [.s (li (-1 : Int))])
 (.x (↑k : Int) (List.map rulesC L) (rulesF (L.getD k default)) (.d [.rd, .rd] (P_c_heldSyntaxS (Syntax.mk 0 0 default [] (L.getD k default).templates) (n + (↑(sumBy cR (List.take
 k L)) : Int) + (↑(sumBy cY (L.getD k default).literals) : Int) + (↑(sumBy cY (L.getD k default).patterns) : Int))) (.i (n + (↑(sumBy cR (List.take k L)) : Int) + (↑(sumBy cY
 (L.getD k default).literals) : Int) + (↑(sumBy cY (L.getD k default).patterns) : Int) + (↑(sumBy cY (L.getD k default).templates) : Int) < 0) (.o 1 [] [.s (li (-1 : Int))]) (.r
 ((↑k : Int) + 1) (.g [] (k + 1) [.s (li ((↑k : Int) + 1)), .s (li (n + (↑(sumBy cR (List.take k L)) : Int) + (↑(sumBy cY (L.getD k default).literals) : Int) + (↑(sumBy cY (L.getD
 k default).patterns) : Int) + (↑(sumBy cY (L.getD k default).templates) : Int)))]))))))))))) (.o 0 [] [.s (li (n + (↑(sumBy cR (List.take k L)) : Int)))]))) (by
  intro k h; try dsimp only [teasy, nthW, lc_heldRulesSLa] at h ⊢
  have g0 := sumBy_takeLe cR L (k + 1)
  have g1 := fun hk : k < L.length => mkR_fix (seqM_get hm hk)
  with_reducible repeat' (first | apply And.intro | exact zR | (intro; skip) | apply c_heldSyntaxS | apply c_heldSyntaxSL)
  all_goals (try simp only [std, stdM, inj] at *)
  all_goals with_reducible repeat' apply And.intro
  all_goals (try (first | with_reducible apply c_heldSyntaxS | with_reducible apply c_heldSyntaxSL | (simp only [← List.map_append]; first | with_reducible apply c_heldSyntaxS | with_reducible apply c_heldSyntaxSL)))
  all_goals (try (first | exact z | ((first | refine rowGet ?_ | refine getC ?_ rfl); (first | omega | (simp only [std, stdM]; omega) | grind)) | (refine set_row ?_; (simp only [List.length_map, List.length_set, mkTo_len]; omega)) | (refine mkToRow ?_; (first | omega | (simp only [std, stdM]; omega) | grind)) | (refine mkTo_row ?_ rfl; (first | omega | (simp only [std, stdM]; omega) | grind)) | (refine mkTo_step ?_ ?_; (first | omega | (simp only [std, stdM]; omega) | grind); (first | grind [sumBy_step, getD_mem', cR_eq, snocI, snocS, rowSnoc])) | grind [sumBy_step, getD_mem', cR_eq, snocI, snocS, rowSnoc])))
theorem c_heldRulesS (L : List Rules) (n : Int) (h0 : 0 ≤ n) (h : n + sumBy cR L ≤ 100000000000000) (h2 : L.length ≤ 2147483647) (hm : seqM mkR cR L n = L)  : P_c_heldRulesS L n :=
 fnOK Tryz.call31 Tryz.func31 (.l (lc_heldRulesSLa L n) (Sc_heldRulesSLa L n h0 h h2 hm) [] [.s (li 0), .s (li n)] 0 (.t (.s (li (n + (↑(sumBy cR L) : Int)))) (.t (.s (li (-1 :
 Int))) .q))) (by
  dsimp only [teasy, P_c_heldRulesS, nthW, lc_heldRulesSLa]
  with_reducible repeat' (first | apply And.intro | exact zR | (intro; skip) | apply c_heldSyntaxS | apply c_heldSyntaxSL)
  all_goals (try simp only [std, stdM, inj] at *)
  all_goals with_reducible repeat' apply And.intro
  all_goals (try (first | with_reducible apply c_heldSyntaxS | with_reducible apply c_heldSyntaxSL | (simp only [← List.map_append]; first | with_reducible apply c_heldSyntaxS | with_reducible apply c_heldSyntaxSL)))
  all_goals (try (first | exact z | ((first | refine rowGet ?_ | refine getC ?_ rfl); (first | omega | (simp only [std, stdM]; omega) | grind)) | (refine set_row ?_; (simp only [List.length_map, List.length_set, mkTo_len]; omega)) | (refine mkToRow ?_; (first | omega | (simp only [std, stdM]; omega) | grind)) | (refine mkTo_row ?_ rfl; (first | omega | (simp only [std, stdM]; omega) | grind)) | (refine mkTo_step ?_ ?_; (first | omega | (simp only [std, stdM]; omega) | grind); (first | grind [mkTo_all, snocI, snocS, rowSnoc])) | grind [mkTo_all, snocI, snocS, rowSnoc])))
abbrev P_c_heldExpander (x : Expander) (n : Int) : Ct := ⟨9, [], [.agg [vL (x.bindings.map bindingC), vL (x.macros.map rulesC), vI x.scope, vI x.vari, vI x.steps], li n], [], .sv (li (n + sumBy cB x.bindings + sumBy cR x.macros))⟩
theorem c_heldExpander (x : Expander) (n : Int) (h0 : 0 ≤ n) (h : n + (sumBy cB x.bindings + sumBy cR x.macros : Nat) ≤ 100000000000000) (h21 : x.macros.length ≤ 2147483647) (hm0 :
 seqM mkB cB x.bindings (n) = x.bindings) (hm1 : seqM mkR cR x.macros (n + sumBy cB x.bindings) = x.macros)  : P_c_heldExpander x n := fnOK Tryz.call9 Tryz.func9 (.d [.rd, .rd]
 (P_c_heldBindingS x.bindings n) (.i (n + (↑(sumBy cB x.bindings) : Int) < 0) (.s (li (-1 : Int))) (.d [.rd, .rd] (P_c_heldRulesS x.macros (n + (↑(sumBy cB x.bindings) : Int))) (.i
 (n + (↑(sumBy cB x.bindings) : Int) + (↑(sumBy cR x.macros) : Int) < 0) (.s (li (-1 : Int))) (.s (li (n + (↑(sumBy cB x.bindings) : Int) + (↑(sumBy cR x.macros) : Int)))))))) (by
  dsimp only [teasy, P_c_heldExpander]
  with_reducible repeat' (first | apply And.intro | exact zR | (intro; skip) | apply c_heldBindingS | apply c_heldRulesS)
  all_goals (try simp only [std, stdM, inj] at *)
  all_goals with_reducible repeat' apply And.intro
  all_goals (try (first | with_reducible apply c_heldBindingS | with_reducible apply c_heldRulesS | (simp only [← List.map_append]; first | with_reducible apply c_heldBindingS | with_reducible apply c_heldRulesS)))
  all_goals (try (first | exact z | ((first | refine rowGet ?_ | refine getC ?_ rfl); (first | omega | (simp only [std, stdM]; omega) | grind)) | (refine set_row ?_; (simp only [List.length_map, List.length_set, mkTo_len]; omega)) | (refine mkToRow ?_; (first | omega | (simp only [std, stdM]; omega) | grind)) | (refine mkTo_row ?_ rfl; (first | omega | (simp only [std, stdM]; omega) | grind)) | (refine mkTo_step ?_ ?_; (first | omega | (simp only [std, stdM]; omega) | grind); (first | grind [snocI, snocS, rowSnoc])) | grind [snocI, snocS, rowSnoc])))
abbrev P_c_heldExportS (L : List Export) (n : Int) : Ct := ⟨37, [], [ll (L.map exportC), li n], [], .sv (li (n + sumBy cE L))⟩
def lc_heldExportSLa (L : List Export) (n : Int) : Lp Nat := .mk 51 0 (fun x => [(0, ll (List.map exportC L)), (1, hs x 1), (5, hs x 0)]) (fun x => []) (fun k => [.s (li (↑k :
 Int)), .s (li (n + (↑(sumBy cE (List.take k L)) : Int)))]) (fun k => k ≤ L.length ∧ L.length ≤ 9223372036854775807) (fun k => L.length - k) [.mk True (.exit 0) (fun x => [(1, hs x
 0)]) (fun x => []) [.s (li (n + (↑(sumBy cE L) : Int)))], .mk False .ret (fun x => [(4, hs x 0)]) (fun x => []) [.s (li (-1 : Int))]]
theorem Sc_heldExportSLa (L : List Export) (n : Int) (h0 : 0 ≤ n) (h : n + (↑(sumBy cE L) : Int) ≤ 100000000000000) (hm : seqM mkE cE L n = L) : Lp.Sem Tryz.prog (loopAt Tryz.f37
 0) (lc_heldExportSLa L n) := lpOK (fun k => .z exportC L (.i ((↑k : Int) < (↑(List.map exportC L).length : Int)) (.w (.draw []) (.x (↑k : Int) (List.map exportC L) (exportF
 (L.getD k default)) (.d [.rd] (P_c_markText (n + (↑(sumBy cE (List.take k L)) : Int))) (.i ((L.getD k default).modul.data.toList ≠ (mText (n + (↑(sumBy cE (List.take k L)) :
 Int))).data.toList) (.o 1 [] [.s (li (-1 : Int))]) (.r (n + (↑(sumBy cE (List.take k L)) : Int) + 1) (.w (.draw []) (.x (↑k : Int) (List.map exportC L) (exportF (L.getD k
 default)) (.d [.rd] (P_c_markText (n + (↑(sumBy cE (List.take k L)) : Int) + 1)) (.i ((L.getD k default).text.data.toList ≠ (mText (n + (↑(sumBy cE (List.take k L)) : Int) +
 1)).data.toList) (.o 1 [] [.s (li (-1 : Int))]) (.r (n + (↑(sumBy cE (List.take k L)) : Int) + 1 + 1) (.x (↑k : Int) (List.map exportC L) (exportF (L.getD k default)) (.i ((L.getD
 k default).kind ≠ n + (↑(sumBy cE (List.take k L)) : Int) + 1 + 1) (.o 1 [] [.s (li (-1 : Int))]) (.r (n + (↑(sumBy cE (List.take k L)) : Int) + 1 + 1 + 1) (.x (↑k : Int)
 (List.map exportC L) (exportF (L.getD k default)) (.i ((L.getD k default).number ≠ n + (↑(sumBy cE (List.take k L)) : Int) + 1 + 1 + 1) (.o 1 [] [.s (li (-1 : Int))]) (.r (n +
 (↑(sumBy cE (List.take k L)) : Int) + 1 + 1 + 1 + 1) (.r ((↑k : Int) + 1) (.g [] (k + 1) [.s (li ((↑k : Int) + 1)), .s (li (n + (↑(sumBy cE (List.take k L)) : Int) + 1 + 1 + 1 +
 1))])))))))))))))))))) (.o 0 [] [.s (li (n + (↑(sumBy cE (List.take k L)) : Int)))]))) (by
  intro k h; try dsimp only [teasy, nthW, lc_heldExportSLa] at h ⊢
  have g0 := sumBy_takeLe cE L (k + 1)
  have g1 := fun hk : k < L.length => mkE_fix (seqM_get hm hk)
  with_reducible repeat' (first | apply And.intro | exact zR | (intro; skip) | apply c_markText)
  all_goals (try simp only [std, stdM, inj] at *)
  all_goals with_reducible repeat' apply And.intro
  all_goals (try (first | with_reducible apply c_markText | (simp only [← List.map_append]; first | with_reducible apply c_markText)))
  all_goals (try (first | exact z | ((first | refine rowGet ?_ | refine getC ?_ rfl); (first | omega | (simp only [std, stdM]; omega) | grind)) | (refine set_row ?_; (simp only [List.length_map, List.length_set, mkTo_len]; omega)) | (refine mkToRow ?_; (first | omega | (simp only [std, stdM]; omega) | grind)) | (refine mkTo_row ?_ rfl; (first | omega | (simp only [std, stdM]; omega) | grind)) | (refine mkTo_step ?_ ?_; (first | omega | (simp only [std, stdM]; omega) | grind); (first | grind [sumBy_step, getD_mem', cE_eq, snocI, snocS, rowSnoc])) | grind [sumBy_step, getD_mem', cE_eq, snocI, snocS, rowSnoc])))
theorem c_heldExportS (L : List Export) (n : Int) (h0 : 0 ≤ n) (h : n + sumBy cE L ≤ 100000000000000) (hm : seqM mkE cE L n = L)  : P_c_heldExportS L n := fnOK Tryz.call37
 Tryz.func37 (.l (lc_heldExportSLa L n) (Sc_heldExportSLa L n h0 h hm) [] [.s (li 0), .s (li n)] 0 (.t (.s (li (n + (↑(sumBy cE L) : Int)))) (.t (.s (li (-1 : Int))) .q))) (by
  dsimp only [teasy, P_c_heldExportS, nthW, lc_heldExportSLa]
  have gl := cE_len L
  with_reducible repeat' (first | apply And.intro | exact zR | (intro; skip) | apply c_markText)
  all_goals (try simp only [std, stdM, inj] at *)
  all_goals with_reducible repeat' apply And.intro
  all_goals (try (first | with_reducible apply c_markText | (simp only [← List.map_append]; first | with_reducible apply c_markText)))
  all_goals (try (first | exact z | ((first | refine rowGet ?_ | refine getC ?_ rfl); (first | omega | (simp only [std, stdM]; omega) | grind)) | (refine set_row ?_; (simp only [List.length_map, List.length_set, mkTo_len]; omega)) | (refine mkToRow ?_; (first | omega | (simp only [std, stdM]; omega) | grind)) | (refine mkTo_row ?_ rfl; (first | omega | (simp only [std, stdM]; omega) | grind)) | (refine mkTo_step ?_ ?_; (first | omega | (simp only [std, stdM]; omega) | grind); (first | grind [mkTo_all, snocI, snocS, rowSnoc])) | grind [mkTo_all, snocI, snocS, rowSnoc])))
abbrev P_c_heldUnitS (L : List Unit) (n : Int) : Ct := ⟨36, [], [ll (L.map unitC), li n], [], .sv (li (n + sumBy cU L))⟩
def lc_heldUnitSLa (L : List Unit) (n : Int) : Lp Nat := .mk 117 0 (fun x => [(0, ll (List.map unitC L)), (1, hs x 1), (5, hs x 0)]) (fun x => []) (fun k => [.s (li (↑k : Int)), .s
 (li (n + (↑(sumBy cU (List.take k L)) : Int)))]) (fun k => k ≤ L.length ∧ L.length ≤ 9223372036854775807) (fun k => L.length - k) [.mk True (.exit 0) (fun x => [(1, hs x 0)]) (fun
 x => []) [.s (li (n + (↑(sumBy cU L) : Int)))], .mk False .ret (fun x => [(4, hs x 0)]) (fun x => []) [.s (li (-1 : Int))]]
theorem Sc_heldUnitSLa (L : List Unit) (n : Int) (h0 : 0 ≤ n) (h : n + (↑(sumBy cU L) : Int) ≤ 100000000000000) (hm : seqM mkU cU L n = L) : Lp.Sem Tryz.prog (loopAt Tryz.f36 0)
 (lc_heldUnitSLa L n) := lpOK (fun k => .z unitC L (.i ((↑k : Int) < (↑(List.map unitC L).length : Int)) (.w (.draw []) (.x (↑k : Int) (List.map unitC L) (unitF (L.getD k default))
 (.d [.rd] (P_c_markText (n + (↑(sumBy cU (List.take k L)) : Int))) (.i ((L.getD k default).name.data.toList ≠ (mText (n + (↑(sumBy cU (List.take k L)) : Int))).data.toList) (.o 1
 [] [.s (li (-1 : Int))]) (.r (n + (↑(sumBy cU (List.take k L)) : Int) + 1) (.x (↑k : Int) (List.map unitC L) (unitF (L.getD k default)) (.d [.rd, .rd] (P_c_heldIntS (L.getD k
 default).globals (n + (↑(sumBy cU (List.take k L)) : Int) + 1)) (.i (n + (↑(sumBy cU (List.take k L)) : Int) + 1 + (↑(L.getD k default).globals.length : Int) < 0) (.o 1 [] [.s (li
 (-1 : Int))]) (.x (↑k : Int) (List.map unitC L) (unitF (L.getD k default)) (.i ((L.getD k default).body.kind ≠ n + (↑(sumBy cU (List.take k L)) : Int) + 1 + (↑(L.getD k
 default).globals.length : Int)) (.o 1 [] [.s (li (-1 : Int))]) (.r (n + (↑(sumBy cU (List.take k L)) : Int) + 1 + (↑(L.getD k default).globals.length : Int) + 1) (.x (↑k : Int)
 (List.map unitC L) (unitF (L.getD k default)) (.i ((L.getD k default).body.number ≠ n + (↑(sumBy cU (List.take k L)) : Int) + 1 + (↑(L.getD k default).globals.length : Int) + 1)
 (.o 1 [] [.s (li (-1 : Int))]) (.r (n + (↑(sumBy cU (List.take k L)) : Int) + 1 + (↑(L.getD k default).globals.length : Int) + 1 + 1) (.x (↑k : Int) (List.map unitC L) (unitF
 (L.getD k default)) (.d [.rd, .rd] (P_c_heldIntS (L.getD k default).body.params (n + (↑(sumBy cU (List.take k L)) : Int) + 1 + (↑(L.getD k default).globals.length : Int) + 1 + 1))
 (.i (n + (↑(sumBy cU (List.take k L)) : Int) + 1 + (↑(L.getD k default).globals.length : Int) + 1 + 1 + (↑(L.getD k default).body.params.length : Int) < 0) (.o 1 [] [.s (li (-1 :
 Int))]) (.x (↑k : Int) (List.map unitC L) (unitF (L.getD k default)) (.i ((L.getD k default).body.datum.kind ≠ n + (↑(sumBy cU (List.take k L)) : Int) + 1 + (↑(L.getD k
 default).globals.length : Int) + 1 + 1 + (↑(L.getD k default).body.params.length : Int)) (.o 1 [] [.s (li (-1 : Int))]) (.r (n + (↑(sumBy cU (List.take k L)) : Int) + 1 +
 (↑(L.getD k default).globals.length : Int) + 1 + 1 + (↑(L.getD k default).body.params.length : Int) + 1) (.x (↑k : Int) (List.map unitC L) (unitF (L.getD k default)) (.i ((L.getD
 k default).body.datum.number ≠ n + (↑(sumBy cU (List.take k L)) : Int) + 1 + (↑(L.getD k default).globals.length : Int) + 1 + 1 + (↑(L.getD k default).body.params.length : Int) +
 1) (.o 1 [] [.s (li (-1 : Int))]) (.r (n + (↑(sumBy cU (List.take k L)) : Int) + 1 + (↑(L.getD k default).globals.length : Int) + 1 + 1 + (↑(L.getD k default).body.params.length :
 Int) + 1 + 1) (.w (.draw []) (.x (↑k : Int) (List.map unitC L) (unitF (L.getD k default)) (.d [.rd] (P_c_markText (n + (↑(sumBy cU (List.take k L)) : Int) + 1 + (↑(L.getD k
 default).globals.length : Int) + 1 + 1 + (↑(L.getD k default).body.params.length : Int) + 1 + 1)) (.i ((L.getD k default).body.datum.text.data.toList ≠ (mText (n + (↑(sumBy cU
 (List.take k L)) : Int) + 1 + (↑(L.getD k default).globals.length : Int) + 1 + 1 + (↑(L.getD k default).body.params.length : Int) + 1 + 1)).data.toList) (.o 1 [] [.s (li (-1 :
 Int))]) (.r (n + (↑(sumBy cU (List.take k L)) : Int) + 1 + (↑(L.getD k default).globals.length : Int) + 1 + 1 + (↑(L.getD k default).body.params.length : Int) + 1 + 1 + 1) (.x (↑k
 : Int) (List.map unitC L) (unitF (L.getD k default)) (.d [.rd, .rd] (P_c_heldDatumS (L.getD k default).body.datum (n + (↑(sumBy cU (List.take k L)) : Int) + 1 + (↑(L.getD k
 default).globals.length : Int) + 1 + 1 + (↑(L.getD k default).body.params.length : Int) + 1 + 1 + 1)) (.i (n + (↑(sumBy cU (List.take k L)) : Int) + 1 + (↑(L.getD k
 default).globals.length : Int) + 1 + 1 + (↑(L.getD k default).body.params.length : Int) + 1 + 1 + 1 + (↑(sumBy cD (L.getD k default).body.datum.items) : Int) < 0) (.o 1 [] [.s (li
 (-1 : Int))]) (.x (↑k : Int) (List.map unitC L) (unitF (L.getD k default)) (.d [.rd, .rd] (P_c_heldCoreS (L.getD k default).body (n + (↑(sumBy cU (List.take k L)) : Int) + 1 +
 (↑(L.getD k default).globals.length : Int) + 1 + 1 + (↑(L.getD k default).body.params.length : Int) + 1 + 1 + 1 + (↑(sumBy cD (L.getD k default).body.datum.items) : Int))) (.i (n
 + (↑(sumBy cU (List.take k L)) : Int) + 1 + (↑(L.getD k default).globals.length : Int) + 1 + 1 + (↑(L.getD k default).body.params.length : Int) + 1 + 1 + 1 + (↑(sumBy cD (L.getD k
 default).body.datum.items) : Int) + (↑(sumBy cC (L.getD k default).body.kids) : Int) < 0) (.o 1 [] [.s (li (-1 : Int))]) (.r ((↑k : Int) + 1) (.g [] (k + 1) [.s (li ((↑k : Int) +
 1)), .s (li (n + (↑(sumBy cU (List.take k L)) : Int) + 1 + (↑(L.getD k default).globals.length : Int) + 1 + 1 + (↑(L.getD k default).body.params.length : Int) + 1 + 1 + 1 +
 (↑(sumBy cD (L.getD k default).body.datum.items) : Int) + (↑(sumBy cC (L.getD k default).body.kids) : Int)))])))))))))))))))))))))))))))))))))))) (.o 0 [] [.s (li (n + (↑(sumBy cU
 (List.take k L)) : Int)))]))) (by
  intro k h; try dsimp only [teasy, nthW, lc_heldUnitSLa] at h ⊢
  have g0 := sumBy_takeLe cU L (k + 1)
  have g1 := fun hk : k < L.length => mkU_fix (seqM_get hm hk)
  with_reducible repeat' (first | apply And.intro | exact zR | (intro; skip) | apply c_markText | apply c_heldIntS | apply c_heldDatumS | apply c_heldDatumSL | apply c_heldCoreS | apply c_heldCoreSL)
  all_goals (try simp only [std, stdM, inj] at *)
  all_goals with_reducible repeat' apply And.intro
  all_goals (try (first | with_reducible apply c_markText | with_reducible apply c_heldIntS | with_reducible apply c_heldDatumS | with_reducible apply c_heldDatumSL | with_reducible apply c_heldCoreS | with_reducible apply c_heldCoreSL | (simp only [← List.map_append]; first | with_reducible apply c_markText | with_reducible apply c_heldIntS | with_reducible apply c_heldDatumS | with_reducible apply c_heldDatumSL | with_reducible apply c_heldCoreS | with_reducible apply c_heldCoreSL)))
  all_goals (try (first | exact z | ((first | refine rowGet ?_ | refine getC ?_ rfl); (first | omega | (simp only [std, stdM]; omega) | grind)) | (refine set_row ?_; (simp only [List.length_map, List.length_set, mkTo_len]; omega)) | (refine mkToRow ?_; (first | omega | (simp only [std, stdM]; omega) | grind)) | (refine mkTo_row ?_ rfl; (first | omega | (simp only [std, stdM]; omega) | grind)) | (refine mkTo_step ?_ ?_; (first | omega | (simp only [std, stdM]; omega) | grind); (first | grind [sumBy_step, getD_mem', cU_eq, snocI, snocS, rowSnoc])) | grind [sumBy_step, getD_mem', cU_eq, snocI, snocS, rowSnoc])))
theorem c_heldUnitS (L : List Unit) (n : Int) (h0 : 0 ≤ n) (h : n + sumBy cU L ≤ 100000000000000) (hm : seqM mkU cU L n = L)  : P_c_heldUnitS L n := fnOK Tryz.call36 Tryz.func36 (.l
 (lc_heldUnitSLa L n) (Sc_heldUnitSLa L n h0 h hm) [] [.s (li 0), .s (li n)] 0 (.t (.s (li (n + (↑(sumBy cU L) : Int)))) (.t (.s (li (-1 : Int))) .q))) (by
  dsimp only [teasy, P_c_heldUnitS, nthW, lc_heldUnitSLa]
  have gl := cU_len L
  with_reducible repeat' (first | apply And.intro | exact zR | (intro; skip) | apply c_markText | apply c_heldIntS | apply c_heldDatumS | apply c_heldDatumSL | apply c_heldCoreS | apply c_heldCoreSL)
  all_goals (try simp only [std, stdM, inj] at *)
  all_goals with_reducible repeat' apply And.intro
  all_goals (try (first | with_reducible apply c_markText | with_reducible apply c_heldIntS | with_reducible apply c_heldDatumS | with_reducible apply c_heldDatumSL | with_reducible apply c_heldCoreS | with_reducible apply c_heldCoreSL | (simp only [← List.map_append]; first | with_reducible apply c_markText | with_reducible apply c_heldIntS | with_reducible apply c_heldDatumS | with_reducible apply c_heldDatumSL | with_reducible apply c_heldCoreS | with_reducible apply c_heldCoreSL)))
  all_goals (try (first | exact z | ((first | refine rowGet ?_ | refine getC ?_ rfl); (first | omega | (simp only [std, stdM]; omega) | grind)) | (refine set_row ?_; (simp only [List.length_map, List.length_set, mkTo_len]; omega)) | (refine mkToRow ?_; (first | omega | (simp only [std, stdM]; omega) | grind)) | (refine mkTo_row ?_ rfl; (first | omega | (simp only [std, stdM]; omega) | grind)) | (refine mkTo_step ?_ ?_; (first | omega | (simp only [std, stdM]; omega) | grind); (first | grind [mkTo_all, snocI, snocS, rowSnoc])) | grind [mkTo_all, snocI, snocS, rowSnoc])))
abbrev P_c_heldWorld (x : World) (n : Int) : Ct := ⟨14, [], [.agg [vL (x.expander.bindings.map bindingC), vL (x.expander.macros.map rulesC), vI x.expander.scope, vI x.expander.vari, vI x.expander.steps, vL (x.units.map unitC), vL (x.exports.map exportC)], li n], [], .sv (li (n + sumBy cB x.expander.bindings + sumBy cR x.expander.macros + sumBy cU x.units + sumBy cE x.exports))⟩
theorem c_heldWorld (x : World) (n : Int) (h0 : 0 ≤ n) (h : n + (sumBy cB x.expander.bindings + sumBy cR x.expander.macros + sumBy cU x.units + sumBy cE x.exports : Nat) ≤
 100000000000000) (h21 : x.expander.macros.length ≤ 2147483647) (hm0 : seqM mkB cB x.expander.bindings (n) = x.expander.bindings) (hm1 : seqM mkR cR x.expander.macros (n + sumBy cB
 x.expander.bindings) = x.expander.macros) (hm2 : seqM mkU cU x.units (n + sumBy cB x.expander.bindings + sumBy cR x.expander.macros) = x.units) (hm3 : seqM mkE cE x.exports (n +
 sumBy cB x.expander.bindings + sumBy cR x.expander.macros + sumBy cU x.units) = x.exports)  : P_c_heldWorld x n := fnOK Tryz.call14 Tryz.func14 (.d [.rd, .rd] (P_c_heldExpander
 x.expander n) (.i (n + (↑(sumBy cB x.expander.bindings) : Int) + (↑(sumBy cR x.expander.macros) : Int) < 0) (.s (li (-1 : Int))) (.d [.rd, .rd] (P_c_heldUnitS x.units (n +
 (↑(sumBy cB x.expander.bindings) : Int) + (↑(sumBy cR x.expander.macros) : Int))) (.i (n + (↑(sumBy cB x.expander.bindings) : Int) + (↑(sumBy cR x.expander.macros) : Int) +
 (↑(sumBy cU x.units) : Int) < 0) (.s (li (-1 : Int))) (.d [.rd, .rd] (P_c_heldExportS x.exports (n + (↑(sumBy cB x.expander.bindings) : Int) + (↑(sumBy cR x.expander.macros) :
 Int) + (↑(sumBy cU x.units) : Int))) (.i (n + (↑(sumBy cB x.expander.bindings) : Int) + (↑(sumBy cR x.expander.macros) : Int) + (↑(sumBy cU x.units) : Int) + (↑(sumBy cE
 x.exports) : Int) < 0) (.s (li (-1 : Int))) (.s (li (n + (↑(sumBy cB x.expander.bindings) : Int) + (↑(sumBy cR x.expander.macros) : Int) + (↑(sumBy cU x.units) : Int) + (↑(sumBy
 cE x.exports) : Int)))))))))) (by
  dsimp only [teasy, P_c_heldWorld]
  with_reducible repeat' (first | apply And.intro | exact zR | (intro; skip) | apply c_heldExpander | apply c_heldUnitS | apply c_heldExportS)
  all_goals (try simp only [std, stdM, inj] at *)
  all_goals with_reducible repeat' apply And.intro
  all_goals (try (first | with_reducible apply c_heldExpander | with_reducible apply c_heldUnitS | with_reducible apply c_heldExportS | (simp only [← List.map_append]; first | with_reducible apply c_heldExpander | with_reducible apply c_heldUnitS | with_reducible apply c_heldExportS)))
  all_goals (try (first | exact z | ((first | refine rowGet ?_ | refine getC ?_ rfl); (first | omega | (simp only [std, stdM]; omega) | grind)) | (refine set_row ?_; (simp only [List.length_map, List.length_set, mkTo_len]; omega)) | (refine mkToRow ?_; (first | omega | (simp only [std, stdM]; omega) | grind)) | (refine mkTo_row ?_ rfl; (first | omega | (simp only [std, stdM]; omega) | grind)) | (refine mkTo_step ?_ ?_; (first | omega | (simp only [std, stdM]; omega) | grind); (first | grind [snocI, snocS, rowSnoc])) | grind [snocI, snocS, rowSnoc])))
end Go.Proofs.YtjgbkigdnjalkaaGreatDoor
end
section
namespace Go.Proofs.YtjgbkigdnjalkaaGreatDoor
open Go Go.Proofs.YtjgbkigdnjalkaaGreatDoor.Ab
set_option linter.unusedVariables false
set_option linter.unusedSimpArgs false
set_option maxHeartbeats 4000000
abbrev P_c_eqIntS (A : List Int) (B : List Int) : Ct := ⟨107, [], [ll (A.map intC), ll (B.map intC)], [], .sv (lb (decide (A = B)))⟩
def lc_eqIntSLa (A : List Int) (B : List Int) : Lp Nat := .mk 26 0 (fun x => [(0, ll (List.map intC A)), (1, ll (List.map intC B)), (5, hs x 0)]) (fun x => []) (fun k => [.s (li
 (↑k : Int))]) (fun k => k ≤ A.length ∧ A.length ≤ 9223372036854775807 ∧ A.length = B.length ∧ List.take k A = List.take k B) (fun k => A.length - k) [.mk (A = B) (.exit 0) (fun x
 => []) (fun x => []) [], .mk (A ≠ B) .ret (fun x => [(4, hs x 0)]) (fun x => []) [.s (lb false)]]
theorem Sc_eqIntSLa (A : List Int) (B : List Int) : Lp.Sem Tryz.prog (loopAt Tryz.f107 0) (lc_eqIntSLa A B) := lpOK (fun k => .z intC A (.i ((↑k : Int) < (↑(List.map intC A).length
 : Int)) (.w (.draw []) (.x (↑k : Int) (List.map intC A) [cI (A.getD k 0)] (.x (↑k : Int) (List.map intC B) [cI (B.getD k 0)] (.i (A.getD k (0 : Int) ≠ B.getD k 0) (.o 1 [] [.s (lb
 false)]) (.r ((↑k : Int) + 1) (.g [] (k + 1) [.s (li ((↑k : Int) + 1))])))))) (.o 0 [] []))) (by
  intro k h; try dsimp only [teasy, nthW, lc_eqIntSLa] at h ⊢
  with_reducible repeat' (first | apply And.intro | exact zR | (intro; skip))
  all_goals (try simp only [std, inj] at *)
  all_goals with_reducible repeat' apply And.intro
  all_goals (try (first | exact z | grind [take_eq, snocI, snocS, rowSnoc])))
theorem c_eqIntS (A B : List Int)  : P_c_eqIntS A B := fnOK Tryz.call107 Tryz.func107 (.z intC A (.z intC B (.i ((↑(List.map intC A).length : Int) ≠ (↑(List.map intC B).length :
 Int)) (.s (lb false)) (.l (lc_eqIntSLa A B) (Sc_eqIntSLa A B) [] [.s (li 0)] 0 (.t (.s (lb true)) (.t (.s (lb false)) .q)))))) (by
  dsimp only [teasy, P_c_eqIntS, nthW, lc_eqIntSLa]
  with_reducible repeat' (first | apply And.intro | exact zR | (intro; skip))
  all_goals (try simp only [std, inj] at *)
  all_goals with_reducible repeat' apply And.intro
  all_goals (try (first | exact z | grind [snocI, snocS, rowSnoc])))
abbrev P_c_eqDatumS (A : List Datum) (B : List Datum) : Ct := ⟨176, [], [ll (A.map datumC), ll (B.map datumC)], [], .sv (lb (decide (A = B)))⟩
abbrev P_c_eqDatum (x : Datum) (y : Datum) : Ct := ⟨145, [], [datumA x, datumA y], [], .sv (lb (decide (x = y)))⟩
def lc_eqDatumSLa (A : List Datum) (B : List Datum) : Lp Nat := .mk 27 0 (fun x => [(0, ll (List.map datumC A)), (1, ll (List.map datumC B)), (5, hs x 0)]) (fun x => []) (fun k =>
 [.s (li (↑k : Int))]) (fun k => k ≤ A.length ∧ A.length ≤ 9223372036854775807 ∧ A.length = B.length ∧ List.take k A = List.take k B) (fun k => A.length - k) [.mk (A = B) (.exit 0)
 (fun x => []) (fun x => []) [], .mk (A ≠ B) .ret (fun x => [(4, hs x 0)]) (fun x => []) [.s (lb false)]]
theorem Sc_eqDatumSLa (A : List Datum) (B : List Datum) (ih : ∀ (x : Datum), x ∈ A → ∀ (y : Datum), OK (P_c_eqDatum x y)) : Lp.Sem Tryz.prog (loopAt Tryz.f176 0) (lc_eqDatumSLa A
 B) := lpOK (fun k => .z datumC A (.i ((↑k : Int) < (↑(List.map datumC A).length : Int)) (.w (.draw []) (.x (↑k : Int) (List.map datumC A) (datumF (A.getD k default)) (.x (↑k :
 Int) (List.map datumC B) (datumF (B.getD k default)) (.d [.rd, .rd] (P_c_eqDatum (A.getD k default) (B.getD k default)) (.b (!decide (A.getD k default = B.getD k default)) (.o 1
 [] [.s (lb false)]) (.r ((↑k : Int) + 1) (.g [] (k + 1) [.s (li ((↑k : Int) + 1))]))))))) (.o 0 [] []))) (by
  intro k h; try dsimp only [teasy, nthW, lc_eqDatumSLa] at h ⊢
  with_reducible repeat' (first | apply And.intro | exact zR | exact ih | (intro; skip) | apply ih)
  all_goals (try simp only [std, inj] at *)
  all_goals with_reducible repeat' apply And.intro
  all_goals (try (first | with_reducible apply ih | (simp only [← List.map_append]; first | with_reducible apply ih)))
  all_goals (try (first | exact z | grind [take_eq, getD_mem', snocI, snocS, rowSnoc])))
theorem c_eqDatumS (A B : List Datum) (ih : ∀ x ∈ A, ∀ (y : Datum), P_c_eqDatum x y)  : P_c_eqDatumS A B := fnOK Tryz.call176 Tryz.func176 (.z datumC A (.z datumC B (.i ((↑(List.map
 datumC A).length : Int) ≠ (↑(List.map datumC B).length : Int)) (.s (lb false)) (.l (lc_eqDatumSLa A B) (Sc_eqDatumSLa A B ih) [] [.s (li 0)] 0 (.t (.s (lb true)) (.t (.s (lb
 false)) .q)))))) (by
  dsimp only [teasy, P_c_eqDatumS, nthW, lc_eqDatumSLa]
  with_reducible repeat' (first | apply And.intro | exact zR | exact ih | (intro; skip))
  all_goals (try simp only [std, inj] at *)
  all_goals with_reducible repeat' apply And.intro
  all_goals (try (first | with_reducible apply ih | (simp only [← List.map_append]; first | with_reducible apply ih)))
  all_goals (try (first | exact z | grind [snocI, snocS, rowSnoc])))
theorem c_eqDatum_s (x y : Datum) (ih : ∀ z ∈ x.items, ∀ (y : Datum), P_c_eqDatum z y)  : P_c_eqDatum x y := fnOK Tryz.call145 Tryz.func145 (.i (x.kind ≠ y.kind) (.s (lb false)) (.i
 (x.number ≠ y.number) (.s (lb false)) (.i (x.text.data.toList ≠ y.text.data.toList) (.s (lb false)) (.d [.rd, .rd] (P_c_eqDatumS x.items y.items) (.b (!decide (x.items = y.items))
 (.s (lb false)) (.s (lb true))))))) (by
  dsimp only [teasy, P_c_eqDatum]
  simp only [datumExt]
  with_reducible repeat' (first | apply And.intro | exact zR | exact ih | (intro; skip) | apply c_eqDatumS | apply ih)
  all_goals (try simp only [std, inj] at *)
  all_goals with_reducible repeat' apply And.intro
  all_goals (try (first | with_reducible apply c_eqDatumS | with_reducible apply ih | (simp only [← List.map_append]; first | with_reducible apply c_eqDatumS | with_reducible apply ih)))
  all_goals (try (first | exact z | grind [bytes_ext, snocI, snocS, rowSnoc])))
theorem c_eqDatum (x : Datum) : ∀ (y : Datum), P_c_eqDatum x y := Datum.ind (P := fun x => ∀ (y : Datum), P_c_eqDatum x y) (fun x ih y => c_eqDatum_s x y ih) x
abbrev P_c_eqCoreS (A : List Core) (B : List Core) : Ct := ⟨146, [], [ll (A.map coreC), ll (B.map coreC)], [], .sv (lb (decide (A = B)))⟩
abbrev P_c_eqCore (x : Core) (y : Core) : Ct := ⟨109, [], [coreA x, coreA y], [], .sv (lb (decide (x = y)))⟩
def lc_eqCoreSLa (A : List Core) (B : List Core) : Lp Nat := .mk 27 0 (fun x => [(0, ll (List.map coreC A)), (1, ll (List.map coreC B)), (5, hs x 0)]) (fun x => []) (fun k => [.s
 (li (↑k : Int))]) (fun k => k ≤ A.length ∧ A.length ≤ 9223372036854775807 ∧ A.length = B.length ∧ List.take k A = List.take k B) (fun k => A.length - k) [.mk (A = B) (.exit 0)
 (fun x => []) (fun x => []) [], .mk (A ≠ B) .ret (fun x => [(4, hs x 0)]) (fun x => []) [.s (lb false)]]
theorem Sc_eqCoreSLa (A : List Core) (B : List Core) (ih : ∀ (x : Core), x ∈ A → ∀ (y : Core), OK (P_c_eqCore x y)) : Lp.Sem Tryz.prog (loopAt Tryz.f146 0) (lc_eqCoreSLa A B) :=
 lpOK (fun k => .z coreC A (.i ((↑k : Int) < (↑(List.map coreC A).length : Int)) (.w (.draw []) (.x (↑k : Int) (List.map coreC A) (coreF (A.getD k default)) (.x (↑k : Int)
 (List.map coreC B) (coreF (B.getD k default)) (.d [.rd, .rd] (P_c_eqCore (A.getD k default) (B.getD k default)) (.b (!decide (A.getD k default = B.getD k default)) (.o 1 [] [.s
 (lb false)]) (.r ((↑k : Int) + 1) (.g [] (k + 1) [.s (li ((↑k : Int) + 1))]))))))) (.o 0 [] []))) (by
  intro k h; try dsimp only [teasy, nthW, lc_eqCoreSLa] at h ⊢
  with_reducible repeat' (first | apply And.intro | exact zR | exact ih | (intro; skip) | apply ih)
  all_goals (try simp only [std, inj] at *)
  all_goals with_reducible repeat' apply And.intro
  all_goals (try (first | with_reducible apply ih | (simp only [← List.map_append]; first | with_reducible apply ih)))
  all_goals (try (first | exact z | grind [take_eq, getD_mem', snocI, snocS, rowSnoc])))
theorem c_eqCoreS (A B : List Core) (ih : ∀ x ∈ A, ∀ (y : Core), P_c_eqCore x y)  : P_c_eqCoreS A B := fnOK Tryz.call146 Tryz.func146 (.z coreC A (.z coreC B (.i ((↑(List.map coreC
 A).length : Int) ≠ (↑(List.map coreC B).length : Int)) (.s (lb false)) (.l (lc_eqCoreSLa A B) (Sc_eqCoreSLa A B ih) [] [.s (li 0)] 0 (.t (.s (lb true)) (.t (.s (lb false))
 .q)))))) (by
  dsimp only [teasy, P_c_eqCoreS, nthW, lc_eqCoreSLa]
  with_reducible repeat' (first | apply And.intro | exact zR | exact ih | (intro; skip))
  all_goals (try simp only [std, inj] at *)
  all_goals with_reducible repeat' apply And.intro
  all_goals (try (first | with_reducible apply ih | (simp only [← List.map_append]; first | with_reducible apply ih)))
  all_goals (try (first | exact z | grind [snocI, snocS, rowSnoc])))
theorem c_eqCore_s (x y : Core) (ih : ∀ z ∈ x.kids, ∀ (y : Core), P_c_eqCore z y)  : P_c_eqCore x y := fnOK Tryz.call109 Tryz.func109 (.i (x.kind ≠ y.kind) (.s (lb false)) (.i
 (x.number ≠ y.number) (.s (lb false)) (.c [.rd, .rd] (c_eqIntS x.params y.params) (.b (!decide (x.params = y.params)) (.s (lb false)) (.c [.rd, .rd] (c_eqDatum x.datum y.datum)
 (.b (!decide (x.datum = y.datum)) (.s (lb false)) (.d [.rd, .rd] (P_c_eqCoreS x.kids y.kids) (.b (!decide (x.kids = y.kids)) (.s (lb false)) (.s (lb true)))))))))) (by
  dsimp only [teasy, P_c_eqCore]
  simp only [coreExt]
  with_reducible repeat' (first | apply And.intro | exact zR | exact ih | (intro; skip) | apply c_eqIntS | apply c_eqDatum | apply c_eqCoreS | apply ih)
  all_goals (try simp only [std, inj] at *)
  all_goals with_reducible repeat' apply And.intro
  all_goals (try (first | with_reducible apply c_eqIntS | with_reducible apply c_eqDatum | with_reducible apply c_eqCoreS | with_reducible apply ih | (simp only [← List.map_append]; first | with_reducible apply c_eqIntS | with_reducible apply c_eqDatum | with_reducible apply c_eqCoreS | with_reducible apply ih)))
  all_goals (try (first | exact z | grind [bytes_ext, snocI, snocS, rowSnoc])))
theorem c_eqCore (x : Core) : ∀ (y : Core), P_c_eqCore x y := Core.ind (P := fun x => ∀ (y : Core), P_c_eqCore x y) (fun x ih y => c_eqCore_s x y ih) x
abbrev P_c_eqSyntaxS (A : List Syntax) (B : List Syntax) : Ct := ⟨108, [], [ll (A.map syntaxC), ll (B.map syntaxC)], [], .sv (lb (decide (A = B)))⟩
abbrev P_c_eqSyntax (x : Syntax) (y : Syntax) : Ct := ⟨144, [], [syntaxA x, syntaxA y], [], .sv (lb (decide (x = y)))⟩
def lc_eqSyntaxSLa (A : List Syntax) (B : List Syntax) : Lp Nat := .mk 27 0 (fun x => [(0, ll (List.map syntaxC A)), (1, ll (List.map syntaxC B)), (5, hs x 0)]) (fun x => []) (fun
 k => [.s (li (↑k : Int))]) (fun k => k ≤ A.length ∧ A.length ≤ 9223372036854775807 ∧ A.length = B.length ∧ List.take k A = List.take k B) (fun k => A.length - k) [.mk (A = B)
 (.exit 0) (fun x => []) (fun x => []) [], .mk (A ≠ B) .ret (fun x => [(4, hs x 0)]) (fun x => []) [.s (lb false)]]
theorem Sc_eqSyntaxSLa (A : List Syntax) (B : List Syntax) (ih : ∀ (x : Syntax), x ∈ A → ∀ (y : Syntax), OK (P_c_eqSyntax x y)) : Lp.Sem Tryz.prog (loopAt Tryz.f108 0)
 (lc_eqSyntaxSLa A B) := lpOK (fun k => .z syntaxC A (.i ((↑k : Int) < (↑(List.map syntaxC A).length : Int)) (.w (.draw []) (.x (↑k : Int) (List.map syntaxC A) (syntaxF (A.getD k
 default)) (.x (↑k : Int) (List.map syntaxC B) (syntaxF (B.getD k default)) (.d [.rd, .rd] (P_c_eqSyntax (A.getD k default) (B.getD k default)) (.b (!decide (A.getD k default =
 B.getD k default)) (.o 1 [] [.s (lb false)]) (.r ((↑k : Int) + 1) (.g [] (k + 1) [.s (li ((↑k : Int) + 1))]))))))) (.o 0 [] []))) (by
  intro k h; try dsimp only [teasy, nthW, lc_eqSyntaxSLa] at h ⊢
  with_reducible repeat' (first | apply And.intro | exact zR | exact ih | (intro; skip) | apply ih)
  all_goals (try simp only [std, inj] at *)
  all_goals with_reducible repeat' apply And.intro
  all_goals (try (first | with_reducible apply ih | (simp only [← List.map_append]; first | with_reducible apply ih)))
  all_goals (try (first | exact z | grind [take_eq, getD_mem', snocI, snocS, rowSnoc])))
theorem c_eqSyntaxS (A B : List Syntax) (ih : ∀ x ∈ A, ∀ (y : Syntax), P_c_eqSyntax x y)  : P_c_eqSyntaxS A B := fnOK Tryz.call108 Tryz.func108 (.z syntaxC A (.z syntaxC B (.i
 ((↑(List.map syntaxC A).length : Int) ≠ (↑(List.map syntaxC B).length : Int)) (.s (lb false)) (.l (lc_eqSyntaxSLa A B) (Sc_eqSyntaxSLa A B ih) [] [.s (li 0)] 0 (.t (.s (lb true))
 (.t (.s (lb false)) .q)))))) (by
  dsimp only [teasy, P_c_eqSyntaxS, nthW, lc_eqSyntaxSLa]
  with_reducible repeat' (first | apply And.intro | exact zR | exact ih | (intro; skip))
  all_goals (try simp only [std, inj] at *)
  all_goals with_reducible repeat' apply And.intro
  all_goals (try (first | with_reducible apply ih | (simp only [← List.map_append]; first | with_reducible apply ih)))
  all_goals (try (first | exact z | grind [snocI, snocS, rowSnoc])))
theorem c_eqSyntax_s (x y : Syntax) (ih : ∀ z ∈ x.items, ∀ (y : Syntax), P_c_eqSyntax z y)  : P_c_eqSyntax x y := fnOK Tryz.call144 Tryz.func144 (.i (x.kind ≠ y.kind) (.s (lb false))
 (.i (x.number ≠ y.number) (.s (lb false)) (.i (x.text.data.toList ≠ y.text.data.toList) (.s (lb false)) (.c [.rd, .rd] (c_eqIntS x.scopes y.scopes) (.b (!decide (x.scopes =
 y.scopes)) (.s (lb false)) (.d [.rd, .rd] (P_c_eqSyntaxS x.items y.items) (.b (!decide (x.items = y.items)) (.s (lb false)) (.s (lb true))))))))) (by
  dsimp only [teasy, P_c_eqSyntax]
  simp only [syntaxExt]
  with_reducible repeat' (first | apply And.intro | exact zR | exact ih | (intro; skip) | apply c_eqIntS | apply c_eqSyntaxS | apply ih)
  all_goals (try simp only [std, inj] at *)
  all_goals with_reducible repeat' apply And.intro
  all_goals (try (first | with_reducible apply c_eqIntS | with_reducible apply c_eqSyntaxS | with_reducible apply ih | (simp only [← List.map_append]; first | with_reducible apply c_eqIntS | with_reducible apply c_eqSyntaxS | with_reducible apply ih)))
  all_goals (try (first | exact z | grind [bytes_ext, snocI, snocS, rowSnoc])))
theorem c_eqSyntax (x : Syntax) : ∀ (y : Syntax), P_c_eqSyntax x y := Syntax.ind (P := fun x => ∀ (y : Syntax), P_c_eqSyntax x y) (fun x ih y => c_eqSyntax_s x y ih) x
abbrev P_c_eqBinding (x : Binding) (y : Binding) : Ct := ⟨58, [], [bindingA x, bindingA y], [], .sv (lb (decide (x = y)))⟩
theorem c_eqBinding (x y : Binding)  : P_c_eqBinding x y := fnOK Tryz.call58 Tryz.func58 (.i (x.text.data.toList ≠ y.text.data.toList) (.s (lb false)) (.c [.rd, .rd] (c_eqIntS
 x.scopes y.scopes) (.b (!decide (x.scopes = y.scopes)) (.s (lb false)) (.i (x.kind ≠ y.kind) (.s (lb false)) (.i (x.number ≠ y.number) (.s (lb false)) (.s (lb true))))))) (by
  dsimp only [teasy, P_c_eqBinding]
  simp only [bindingExt]
  with_reducible repeat' (first | apply And.intro | exact zR | (intro; skip))
  all_goals (try simp only [std, inj] at *)
  all_goals with_reducible repeat' apply And.intro
  all_goals (try (first | exact z | grind [bytes_ext, snocI, snocS, rowSnoc])))
abbrev P_c_eqBindingS (A : List Binding) (B : List Binding) : Ct := ⟨26, [], [ll (A.map bindingC), ll (B.map bindingC)], [], .sv (lb (decide (A = B)))⟩
def lc_eqBindingSLa (A : List Binding) (B : List Binding) : Lp Nat := .mk 27 0 (fun x => [(0, ll (List.map bindingC A)), (1, ll (List.map bindingC B)), (5, hs x 0)]) (fun x => [])
 (fun k => [.s (li (↑k : Int))]) (fun k => k ≤ A.length ∧ A.length ≤ 9223372036854775807 ∧ A.length = B.length ∧ List.take k A = List.take k B) (fun k => A.length - k) [.mk (A = B)
 (.exit 0) (fun x => []) (fun x => []) [], .mk (A ≠ B) .ret (fun x => [(4, hs x 0)]) (fun x => []) [.s (lb false)]]
theorem Sc_eqBindingSLa (A : List Binding) (B : List Binding) : Lp.Sem Tryz.prog (loopAt Tryz.f26 0) (lc_eqBindingSLa A B) := lpOK (fun k => .z bindingC A (.i ((↑k : Int) <
 (↑(List.map bindingC A).length : Int)) (.w (.draw []) (.x (↑k : Int) (List.map bindingC A) (bindingF (A.getD k default)) (.x (↑k : Int) (List.map bindingC B) (bindingF (B.getD k
 default)) (.c [.rd, .rd] (c_eqBinding (A.getD k default) (B.getD k default)) (.b (!decide (A.getD k default = B.getD k default)) (.o 1 [] [.s (lb false)]) (.r ((↑k : Int) + 1) (.g
 [] (k + 1) [.s (li ((↑k : Int) + 1))]))))))) (.o 0 [] []))) (by
  intro k h; try dsimp only [teasy, nthW, lc_eqBindingSLa] at h ⊢
  with_reducible repeat' (first | apply And.intro | exact zR | (intro; skip))
  all_goals (try simp only [std, inj] at *)
  all_goals with_reducible repeat' apply And.intro
  all_goals (try (first | exact z | grind [take_eq, getD_mem', snocI, snocS, rowSnoc])))
theorem c_eqBindingS (A B : List Binding)  : P_c_eqBindingS A B := fnOK Tryz.call26 Tryz.func26 (.z bindingC A (.z bindingC B (.i ((↑(List.map bindingC A).length : Int) ≠ (↑(List.map
 bindingC B).length : Int)) (.s (lb false)) (.l (lc_eqBindingSLa A B) (Sc_eqBindingSLa A B) [] [.s (li 0)] 0 (.t (.s (lb true)) (.t (.s (lb false)) .q)))))) (by
  dsimp only [teasy, P_c_eqBindingS, nthW, lc_eqBindingSLa]
  with_reducible repeat' (first | apply And.intro | exact zR | (intro; skip))
  all_goals (try simp only [std, inj] at *)
  all_goals with_reducible repeat' apply And.intro
  all_goals (try (first | exact z | grind [snocI, snocS, rowSnoc])))
abbrev P_c_eqRules (x : Rules) (y : Rules) : Ct := ⟨59, [], [rulesA x, rulesA y], [], .sv (lb (decide (x = y)))⟩
theorem c_eqRules (x y : Rules)  : P_c_eqRules x y := fnOK Tryz.call59 Tryz.func59 (.d [.rd, .rd] (P_c_eqSyntaxS x.literals y.literals) (.b (!decide (x.literals = y.literals)) (.s
 (lb false)) (.d [.rd, .rd] (P_c_eqSyntaxS x.patterns y.patterns) (.b (!decide (x.patterns = y.patterns)) (.s (lb false)) (.d [.rd, .rd] (P_c_eqSyntaxS x.templates y.templates) (.b
 (!decide (x.templates = y.templates)) (.s (lb false)) (.s (lb true)))))))) (by
  dsimp only [teasy, P_c_eqRules]
  simp only [rulesExt]
  with_reducible repeat' (first | apply And.intro | exact zR | (intro; skip) | apply c_eqSyntaxS | apply c_eqSyntax)
  all_goals (try simp only [std, inj] at *)
  all_goals with_reducible repeat' apply And.intro
  all_goals (try (first | with_reducible apply c_eqSyntaxS | with_reducible apply c_eqSyntax | (simp only [← List.map_append]; first | with_reducible apply c_eqSyntaxS | with_reducible apply c_eqSyntax)))
  all_goals (try (first | exact z | grind [bytes_ext, snocI, snocS, rowSnoc])))
abbrev P_c_eqRulesS (A : List Rules) (B : List Rules) : Ct := ⟨27, [], [ll (A.map rulesC), ll (B.map rulesC)], [], .sv (lb (decide (A = B)))⟩
def lc_eqRulesSLa (A : List Rules) (B : List Rules) : Lp Nat := .mk 27 0 (fun x => [(0, ll (List.map rulesC A)), (1, ll (List.map rulesC B)), (5, hs x 0)]) (fun x => []) (fun k =>
 [.s (li (↑k : Int))]) (fun k => k ≤ A.length ∧ A.length ≤ 9223372036854775807 ∧ A.length = B.length ∧ List.take k A = List.take k B) (fun k => A.length - k) [.mk (A = B) (.exit 0)
 (fun x => []) (fun x => []) [], .mk (A ≠ B) .ret (fun x => [(4, hs x 0)]) (fun x => []) [.s (lb false)]]
theorem Sc_eqRulesSLa (A : List Rules) (B : List Rules) : Lp.Sem Tryz.prog (loopAt Tryz.f27 0) (lc_eqRulesSLa A B) := lpOK (fun k => .z rulesC A (.i ((↑k : Int) < (↑(List.map
 rulesC A).length : Int)) (.w (.draw []) (.x (↑k : Int) (List.map rulesC A) (rulesF (A.getD k default)) (.x (↑k : Int) (List.map rulesC B) (rulesF (B.getD k default)) (.c [.rd,
 .rd] (c_eqRules (A.getD k default) (B.getD k default)) (.b (!decide (A.getD k default = B.getD k default)) (.o 1 [] [.s (lb false)]) (.r ((↑k : Int) + 1) (.g [] (k + 1) [.s (li
 ((↑k : Int) + 1))]))))))) (.o 0 [] []))) (by
  intro k h; try dsimp only [teasy, nthW, lc_eqRulesSLa] at h ⊢
  with_reducible repeat' (first | apply And.intro | exact zR | (intro; skip))
  all_goals (try simp only [std, inj] at *)
  all_goals with_reducible repeat' apply And.intro
  all_goals (try (first | exact z | grind [take_eq, getD_mem', snocI, snocS, rowSnoc])))
theorem c_eqRulesS (A B : List Rules)  : P_c_eqRulesS A B := fnOK Tryz.call27 Tryz.func27 (.z rulesC A (.z rulesC B (.i ((↑(List.map rulesC A).length : Int) ≠ (↑(List.map rulesC
 B).length : Int)) (.s (lb false)) (.l (lc_eqRulesSLa A B) (Sc_eqRulesSLa A B) [] [.s (li 0)] 0 (.t (.s (lb true)) (.t (.s (lb false)) .q)))))) (by
  dsimp only [teasy, P_c_eqRulesS, nthW, lc_eqRulesSLa]
  with_reducible repeat' (first | apply And.intro | exact zR | (intro; skip))
  all_goals (try simp only [std, inj] at *)
  all_goals with_reducible repeat' apply And.intro
  all_goals (try (first | exact z | grind [snocI, snocS, rowSnoc])))
abbrev P_c_eqExpander (x : Expander) (y : Expander) : Ct := ⟨7, [], [expanderA x, expanderA y], [], .sv (lb (decide (x = y)))⟩
theorem c_eqExpander (x y : Expander)  : P_c_eqExpander x y := fnOK Tryz.call7 Tryz.func7 (.c [.rd, .rd] (c_eqBindingS x.bindings y.bindings) (.b (!decide (x.bindings = y.bindings))
 (.s (lb false)) (.c [.rd, .rd] (c_eqRulesS x.macros y.macros) (.b (!decide (x.macros = y.macros)) (.s (lb false)) (.i (x.scope ≠ y.scope) (.s (lb false)) (.i (x.vari ≠ y.vari) (.s
 (lb false)) (.i (x.steps ≠ y.steps) (.s (lb false)) (.s (lb true))))))))) (by
  dsimp only [teasy, P_c_eqExpander]
  simp only [expanderExt]
  with_reducible repeat' (first | apply And.intro | exact zR | (intro; skip))
  all_goals (try simp only [std, inj] at *)
  all_goals with_reducible repeat' apply And.intro
  all_goals (try (first | exact z | grind [bytes_ext, snocI, snocS, rowSnoc])))
abbrev P_c_eqExport (x : Export) (y : Export) : Ct := ⟨66, [], [exportA x, exportA y], [], .sv (lb (decide (x = y)))⟩
theorem c_eqExport (x y : Export)  : P_c_eqExport x y := fnOK Tryz.call66 Tryz.func66 (.i (x.modul.data.toList ≠ y.modul.data.toList) (.s (lb false)) (.i (x.text.data.toList ≠
 y.text.data.toList) (.s (lb false)) (.i (x.kind ≠ y.kind) (.s (lb false)) (.i (x.number ≠ y.number) (.s (lb false)) (.s (lb true)))))) (by
  dsimp only [teasy, P_c_eqExport]
  simp only [exportExt]
  with_reducible repeat' (first | apply And.intro | exact zR | (intro; skip))
  all_goals (try simp only [std, inj] at *)
  all_goals with_reducible repeat' apply And.intro
  all_goals (try (first | exact z | grind [bytes_ext, snocI, snocS, rowSnoc])))
abbrev P_c_eqExportS (A : List Export) (B : List Export) : Ct := ⟨33, [], [ll (A.map exportC), ll (B.map exportC)], [], .sv (lb (decide (A = B)))⟩
def lc_eqExportSLa (A : List Export) (B : List Export) : Lp Nat := .mk 27 0 (fun x => [(0, ll (List.map exportC A)), (1, ll (List.map exportC B)), (5, hs x 0)]) (fun x => []) (fun
 k => [.s (li (↑k : Int))]) (fun k => k ≤ A.length ∧ A.length ≤ 9223372036854775807 ∧ A.length = B.length ∧ List.take k A = List.take k B) (fun k => A.length - k) [.mk (A = B)
 (.exit 0) (fun x => []) (fun x => []) [], .mk (A ≠ B) .ret (fun x => [(4, hs x 0)]) (fun x => []) [.s (lb false)]]
theorem Sc_eqExportSLa (A : List Export) (B : List Export) : Lp.Sem Tryz.prog (loopAt Tryz.f33 0) (lc_eqExportSLa A B) := lpOK (fun k => .z exportC A (.i ((↑k : Int) < (↑(List.map
 exportC A).length : Int)) (.w (.draw []) (.x (↑k : Int) (List.map exportC A) (exportF (A.getD k default)) (.x (↑k : Int) (List.map exportC B) (exportF (B.getD k default)) (.c
 [.rd, .rd] (c_eqExport (A.getD k default) (B.getD k default)) (.b (!decide (A.getD k default = B.getD k default)) (.o 1 [] [.s (lb false)]) (.r ((↑k : Int) + 1) (.g [] (k + 1) [.s
 (li ((↑k : Int) + 1))]))))))) (.o 0 [] []))) (by
  intro k h; try dsimp only [teasy, nthW, lc_eqExportSLa] at h ⊢
  with_reducible repeat' (first | apply And.intro | exact zR | (intro; skip))
  all_goals (try simp only [std, inj] at *)
  all_goals with_reducible repeat' apply And.intro
  all_goals (try (first | exact z | grind [take_eq, getD_mem', snocI, snocS, rowSnoc])))
theorem c_eqExportS (A B : List Export)  : P_c_eqExportS A B := fnOK Tryz.call33 Tryz.func33 (.z exportC A (.z exportC B (.i ((↑(List.map exportC A).length : Int) ≠ (↑(List.map
 exportC B).length : Int)) (.s (lb false)) (.l (lc_eqExportSLa A B) (Sc_eqExportSLa A B) [] [.s (li 0)] 0 (.t (.s (lb true)) (.t (.s (lb false)) .q)))))) (by
  dsimp only [teasy, P_c_eqExportS, nthW, lc_eqExportSLa]
  with_reducible repeat' (first | apply And.intro | exact zR | (intro; skip))
  all_goals (try simp only [std, inj] at *)
  all_goals with_reducible repeat' apply And.intro
  all_goals (try (first | exact z | grind [snocI, snocS, rowSnoc])))
abbrev P_c_eqUnit (x : Unit) (y : Unit) : Ct := ⟨65, [], [unitA x, unitA y], [], .sv (lb (decide (x = y)))⟩
theorem c_eqUnit (x y : Unit)  : P_c_eqUnit x y := fnOK Tryz.call65 Tryz.func65 (.i (x.name.data.toList ≠ y.name.data.toList) (.s (lb false)) (.c [.rd, .rd] (c_eqIntS x.globals
 y.globals) (.b (!decide (x.globals = y.globals)) (.s (lb false)) (.c [.rd, .rd] (c_eqCore x.body y.body) (.b (!decide (x.body = y.body)) (.s (lb false)) (.s (lb true))))))) (by
  dsimp only [teasy, P_c_eqUnit]
  simp only [unitExt]
  with_reducible repeat' (first | apply And.intro | exact zR | (intro; skip))
  all_goals (try simp only [std, inj] at *)
  all_goals with_reducible repeat' apply And.intro
  all_goals (try (first | exact z | grind [bytes_ext, snocI, snocS, rowSnoc])))
abbrev P_c_eqUnitS (A : List Unit) (B : List Unit) : Ct := ⟨32, [], [ll (A.map unitC), ll (B.map unitC)], [], .sv (lb (decide (A = B)))⟩
def lc_eqUnitSLa (A : List Unit) (B : List Unit) : Lp Nat := .mk 27 0 (fun x => [(0, ll (List.map unitC A)), (1, ll (List.map unitC B)), (5, hs x 0)]) (fun x => []) (fun k => [.s
 (li (↑k : Int))]) (fun k => k ≤ A.length ∧ A.length ≤ 9223372036854775807 ∧ A.length = B.length ∧ List.take k A = List.take k B) (fun k => A.length - k) [.mk (A = B) (.exit 0)
 (fun x => []) (fun x => []) [], .mk (A ≠ B) .ret (fun x => [(4, hs x 0)]) (fun x => []) [.s (lb false)]]
theorem Sc_eqUnitSLa (A : List Unit) (B : List Unit) : Lp.Sem Tryz.prog (loopAt Tryz.f32 0) (lc_eqUnitSLa A B) := lpOK (fun k => .z unitC A (.i ((↑k : Int) < (↑(List.map unitC
 A).length : Int)) (.w (.draw []) (.x (↑k : Int) (List.map unitC A) (unitF (A.getD k default)) (.x (↑k : Int) (List.map unitC B) (unitF (B.getD k default)) (.c [.rd, .rd] (c_eqUnit
 (A.getD k default) (B.getD k default)) (.b (!decide (A.getD k default = B.getD k default)) (.o 1 [] [.s (lb false)]) (.r ((↑k : Int) + 1) (.g [] (k + 1) [.s (li ((↑k : Int) +
 1))]))))))) (.o 0 [] []))) (by
  intro k h; try dsimp only [teasy, nthW, lc_eqUnitSLa] at h ⊢
  with_reducible repeat' (first | apply And.intro | exact zR | (intro; skip))
  all_goals (try simp only [std, inj] at *)
  all_goals with_reducible repeat' apply And.intro
  all_goals (try (first | exact z | grind [take_eq, getD_mem', snocI, snocS, rowSnoc])))
theorem c_eqUnitS (A B : List Unit)  : P_c_eqUnitS A B := fnOK Tryz.call32 Tryz.func32 (.z unitC A (.z unitC B (.i ((↑(List.map unitC A).length : Int) ≠ (↑(List.map unitC B).length :
 Int)) (.s (lb false)) (.l (lc_eqUnitSLa A B) (Sc_eqUnitSLa A B) [] [.s (li 0)] 0 (.t (.s (lb true)) (.t (.s (lb false)) .q)))))) (by
  dsimp only [teasy, P_c_eqUnitS, nthW, lc_eqUnitSLa]
  with_reducible repeat' (first | apply And.intro | exact zR | (intro; skip))
  all_goals (try simp only [std, inj] at *)
  all_goals with_reducible repeat' apply And.intro
  all_goals (try (first | exact z | grind [snocI, snocS, rowSnoc])))
abbrev P_c_eqWorld (x : World) (y : World) : Ct := ⟨12, [], [worldA x, worldA y], [], .sv (lb (decide (x = y)))⟩
theorem c_eqWorld (x y : World)  : P_c_eqWorld x y := fnOK Tryz.call12 Tryz.func12 (.c [.rd, .rd] (c_eqExpander x.expander y.expander) (.b (!decide (x.expander = y.expander)) (.s (lb
 false)) (.c [.rd, .rd] (c_eqUnitS x.units y.units) (.b (!decide (x.units = y.units)) (.s (lb false)) (.c [.rd, .rd] (c_eqExportS x.exports y.exports) (.b (!decide (x.exports =
 y.exports)) (.s (lb false)) (.s (lb true)))))))) (by
  dsimp only [teasy, P_c_eqWorld]
  simp only [worldExt]
  with_reducible repeat' (first | apply And.intro | exact zR | (intro; skip))
  all_goals (try simp only [std, inj] at *)
  all_goals with_reducible repeat' apply And.intro
  all_goals (try (first | exact z | grind [bytes_ext, snocI, snocS, rowSnoc])))
end Go.Proofs.YtjgbkigdnjalkaaGreatDoor
end
section
namespace Go.Proofs.YtjgbkigdnjalkaaGreatDoor
open Go Go.Proofs.YtjgbkigdnjalkaaGreatDoor.Ab
set_option linter.unusedVariables false
set_option linter.unusedSimpArgs false
set_option maxHeartbeats 4000000
abbrev P_c_LNwW  : Ct := ⟨4, [], [], [], .sv (lb true)⟩
theorem c_LNwW   : P_c_LNwW := fnOK Tryz.call4 Tryz.func4 (.c [] c_sNewW (.c [] c_iNewW (.c [.rd, .rd] (c_eqWorld (World.mk (baQ 9) [] []) (World.mk (baQ 9) [] [])) (.b (!decide
 (World.mk (baQ 9) [] [] = World.mk (baQ 9) [] [])) (.s (lb false)) (.d [.agg [some (true, 4), some (true, 3), none, none, none, some (true, 10), some (true, 4)], .rd]
 (P_c_markWorld (World.mk (baQ 9) [] []) 1) (.d [.rd, .rd] (P_c_heldWorld (World.mk (Expander.mk (seqM mkB cB (baQ 9).bindings 1) (seqM mkR cR (baQ 9).macros (1 + (↑(sumBy cB (baQ
 9).bindings) : Int))) (baQ 9).scope (baQ 9).vari (baQ 9).steps) [] []) 1) (.y false (.i (Int.ofNat (1 + sumBy cB (seqM mkB cB (baQ 9).bindings 1) + sumBy cR (seqM mkR cR (baQ
 9).macros (1 + (↑(sumBy cB (baQ 9).bindings) : Int))) + sumBy cU [] + sumBy cE []) ≠ Int.ofNat (1 + sumBy cB (baQ 9).bindings + sumBy cR (baQ 9).macros + sumBy cU [] + sumBy cE
 [])) (.s (lb false)) (.c [] c_iNewW (.c [.rd, .rd] (c_eqWorld (World.mk (baQ 9) [] []) (World.mk (baQ 9) [] [])) (.b (!decide (World.mk (baQ 9) [] [] = World.mk (baQ 9) [] []))
 (.s (lb false)) (.d [.rd, .rd] (P_c_heldWorld (World.mk (Expander.mk (seqM mkB cB (baQ 9).bindings 1) (seqM mkR cR (baQ 9).macros (1 + (↑(sumBy cB (baQ 9).bindings) : Int))) (baQ
 9).scope (baQ 9).vari (baQ 9).steps) [] []) 1) (.y false (.i (Int.ofNat (1 + sumBy cB (seqM mkB cB (baQ 9).bindings 1) + sumBy cR (seqM mkR cR (baQ 9).macros (1 + (↑(sumBy cB (baQ
 9).bindings) : Int))) + sumBy cU [] + sumBy cE []) ≠ Int.ofNat (1 + sumBy cB (baQ 9).bindings + sumBy cR (baQ 9).macros + sumBy cU [] + sumBy cE [])) (.s (lb false)) (.s (lb
 true)))))))))))))))) (by
  dsimp only [teasy, P_c_LNwW]
  have e1 : sumBy cB (baQ 9).bindings ≤ 100000 := by rw [baQ_eq]; decide +kernel
  have e2 : sumBy cR (baQ 9).macros ≤ 100000 := by rw [baQ_eq]; decide +kernel
  have e3 : (baQ 9).macros.length ≤ 100000 := by rw [baQ_eq]; decide +kernel
  have e4 : (baQ 9).bindings.length ≤ 100000 := by rw [baQ_eq]; decide +kernel
  with_reducible repeat' (first | apply And.intro | exact zR | (intro; skip) | apply c_markWorld | apply c_heldWorld)
  all_goals (try simp only [std, stdM, inj] at *)
  all_goals with_reducible repeat' apply And.intro
  all_goals (try (first | with_reducible apply c_markWorld | with_reducible apply c_heldWorld | (simp only [← List.map_append]; first | with_reducible apply c_markWorld | with_reducible apply c_heldWorld)))
  all_goals (try (first | exact z | ((first | refine rowGet ?_ | refine getC ?_ rfl); (first | omega | (simp only [std, stdM]; omega) | grind)) | (refine set_row ?_; (simp only [List.length_map, List.length_set, mkTo_len]; omega)) | (refine mkToRow ?_; (first | omega | (simp only [std, stdM]; omega) | grind)) | (refine mkTo_row ?_ rfl; (first | omega | (simp only [std, stdM]; omega) | grind)) | (refine mkTo_step ?_ ?_; (first | omega | (simp only [std, stdM]; omega) | grind); (first | grind [seqM_idem, seqM_len, sum_seqM, snocI, snocS, rowSnoc])) | grind [seqM_idem, seqM_len, sum_seqM, snocI, snocS, rowSnoc])))
end Go.Proofs.YtjgbkigdnjalkaaGreatDoor
end
section
namespace Go.Proofs.YtjgbkigdnjalkaaGreatDoor.fnExactNewWorld
open Go Go.ChangeShapes Go.WideShapes Go.ChangeAt Go.RowKit Go.Proofs.YtjgbkigdnjalkaaGreatDoor.Ab
set_option linter.unusedVariables false
theorem own : ownKnob Tryz.prog.godebug = none := by kernel_rfl
theorem laidO : laidOutB Tryz.prog = true := by kernel_rfl
theorem rowed : mapsRowed Tryz.prog = true := by kernel_rfl
theorem sized : ((List.range Tryz.prog.types.size).all fun t => match Tryz.prog.underlying t with | some (.slice e) => decide (0 < Tryz.prog.cellsOf e) | _ => true) = true := by kernel_rfl
theorem gTab : Tryz.prog.globalNamed pow10N = some 3 := by kernel_rfl
theorem gTabType : (Tryz.prog.globals[3]?).map (·.type) = some 204 := by kernel_rfl
theorem cellsE : Tryz.prog.cellsOf 185 = 1 := by kernel_rfl
theorem cellsT : Tryz.prog.cellsOf 204 = 20 := by kernel_rfl
theorem rowTab : Rows.fnExactNewWorldRow.laid.drop 2 = (pow10N, Lib.tabData .u64 Lib.pow10Tab) :: Rows.fnExactNewWorldRow.laid.drop 3 := by kernel_rfl
theorem laid_drop {W : Go.World} : ∀ (k : Nat) (l : List (String × DataW PUnit.{1})), laidMet Tryz.prog l W → laidMet Tryz.prog (l.drop k) W
  | 0, _, h => h
  | k + 1, [], h => h
  | k + 1, _ :: r, h => laid_drop k r (laidMet.tail h)
theorem tab {W : Go.World} (h : laidMetH Tryz.prog Rows.fnExactNewWorldRow.laid W) : Lib.TabIs Tryz.prog W pow10N .u64 Lib.pow10Tab := by
  have h1 : laidMet Tryz.prog Rows.fnExactNewWorldRow.laid W := h
  have h2 := laid_drop 2 _ h1
  rw [rowTab] at h2
  exact Lib.tabIs_of_head gTab gTabType Tryz.underlying204 Tryz.underlying185 cellsE cellsT h2
theorem star : "*" ++ "errors.errorString" = "*errors.errorString" := by decide
theorem rowErr (u : TypeId) (h : Tryz.prog.typeName? 3 u = some "*errors.errorString") : u = 195 :=
  typeName_ptr_named (nm := "errors.errorString") (by rw [star]; kernel_rfl) (by kernel_rfl) (by decide) u (by rw [star]; exact h)
theorem errV {W : Go.World} (h : laidMetH Tryz.prog Rows.fnExactNewWorldRow.laid W) : ∃ t p, W.var? Tryz.prog "strconv.ErrSyntax" = some #[.iface t p] := by
  have h1 : laidMet Tryz.prog Rows.fnExactNewWorldRow.laid W := h
  have h2 := laid_drop 4 _ h1
  rw [show Rows.fnExactNewWorldRow.laid.drop 4 = ("strconv.ErrSyntax", Rows.laid_strconv_ErrSyntax) :: Rows.fnExactNewWorldRow.laid.drop 5 from by kernel_rfl] at h2
  obtain ⟨a, s, hv, _, _, _⟩ := laid_sentinel h2 (show Tryz.prog.globalNamed "strconv.ErrSyntax" = some 1 by kernel_rfl) (show (Tryz.prog.globals[1]?).map (·.type) = some 128 by kernel_rfl) Tryz.underlying128 rowErr Tryz.underlying195 Tryz.underlying197 rfl rfl Tryz.underlying9 (by kernel_rfl) (by kernel_rfl)
  exact ⟨_, _, hv⟩
theorem known {W : Go.World} (h : laidMetH Tryz.prog Rows.fnExactNewWorldRow.laid W) : Kn Tryz.prog W (allI W) := by
  have lt : ∀ {n : String} {g : Nat} {cs : Array Value}, Tryz.prog.globalNamed n = some g → W.var? Tryz.prog n = some cs → g < W.heap.size := fun {n g cs} hg hv => by
    rcases Nat.lt_or_ge g W.heap.size with e | e
    · exact e
    · unfold World.var? at hv; rw [hg, Option.bind_some, Array.getElem?_eq_none e] at hv; cases hv
  exact ⟨fun g hg => ⟨lt hg (tab h), fun _ hb => hb, _, tab h, rfl⟩, fun _ g hg => by obtain ⟨t, p, hv⟩ := errV h; exact ⟨lt hg hv, fun _ hb => hb, _, hv, t, p, rfl⟩⟩
set_option maxRecDepth 100000 in
theorem contract (H : Type) (enc : TypeId × Value → H) (W : Go.World) (base : Nat) (args : Array Value) (ds gs : List (DataW H)) (before : List MemPlace)
    (hval0 : ∀ (j : Nat) t v, Tryz.f4.params[j]? = some t → args[j]? = some v → Value.okWide Tryz.prog W .any base t v)
    (hW : DataW.Whole enc Tryz.prog Tryz.f4.params.toList Rows.fnExactNewWorldSpec.vars false W args.toList ds gs before) (hL : laidMetH Tryz.prog Rows.fnExactNewWorldRow.laid W) :
    Calls Tryz.prog 4 args W fun e W' => ∃ v, e = .returned v ∧ Rows.fnExactNewWorldSpec.post enc Tryz.prog Tryz.f4 false true false false W args v W' := by
  have hval : ∀ (j : Nat) t v, Tryz.f4.params[j]? = some t → args[j]? = some v → Value.okWide Tryz.prog W .any base t v := hval0
  have hW' := hW
  obtain ⟨p, q, hA0, hV, rfl, hfz, hnd⟩ := hW
  obtain ⟨rfl, rfl⟩ := trodVars_none hV
  have hA : DataW.TrodAll enc Tryz.prog W 0 (fun _ => true) true Tryz.f4.params.toList args.toList ds p := hA0
  rw [Tryz.params4] at hA hval
  have hA2 := hA
  clear hA0 hval0
  obtain ⟨hn, rfl, rfl⟩ := trodAll_nil hA
  obtain rfl : args = #[] := by cases args; simp_all
  refine (CallOK.kept (w := W) (vals := #[]) (c_LNwW ) (known hL) trivial).mono fun e W' ⟨he, hg, _⟩ => ?_
  subst he
  exact ⟨_, rfl, post_of_kept (pv := []) hW' (fun _ _ _ => (trodAll_cons_mk (shut_bool Tryz.underlying4 _) trodAll_mk0))
    (fun sp hsp => trodAll_kept laidO rowed sized hg (by decide +kernel) hA2 fun y hy => hsp y (by simp at hy)) (fun _ _ => rfl) rfl
    hg (ok_one (by kernel_rfl) rfl (okWide_bool_mk Tryz.underlying4 _))⟩
def litsV : DataW PUnit.{1} → Array Value
  | .agg l => (l.map fun x => match x with | .lit (.int k n) => Value.int k n | _ => .bool false).toArray
  | _ => #[]
noncomputable def laidWorld (os : Os) : Go.World :=
  { World.holding Tryz.prog os ⟨#[.cells #[.string ⟨#[118, 97, 108, 117, 101, 32, 111, 117, 116, 32, 111, 102, 32, 114, 97, 110, 103, 101]⟩] 197, .cells #[.string ⟨#[105, 110, 118, 97, 108, 105, 100, 32, 115, 121, 110, 116, 97, 120]⟩] 197], #[], []⟩ with heap := ((((((World.holding Tryz.prog os ⟨#[.cells #[.string ⟨#[118, 97, 108, 117, 101, 32, 111, 117, 116, 32, 111, 102, 32, 114, 97, 110, 103, 101]⟩] 197, .cells #[.string ⟨#[105, 110, 118, 97, 108, 105, 100, 32, 115, 121, 110, 116, 97, 120]⟩] 197], #[], []⟩).heap.modify 2 fun | .cells _ t z => .cells #[.iface 195 (.pointer (some ⟨(World.holding Tryz.prog default ⟨#[], #[], []⟩).heap.size + 0, 0, none⟩))] t z | o => o).modify 1 fun | .cells _ t z => .cells #[.iface 195 (.pointer (some ⟨(World.holding Tryz.prog default ⟨#[], #[], []⟩).heap.size + 1, 0, none⟩))] t z | o => o).modify 4 fun | .cells _ t z => .cells (litsV Rows.laid_math_bits_deBruijn32tab) t z | o => o).modify 5 fun | .cells _ t z => .cells (litsV Rows.laid_math_bits_deBruijn64tab) t z | o => o).modify 3 fun | .cells _ t z => .cells (litsV Rows.laid_internal_strconv_uint64pow10) t z | o => o) }
abbrev arg0 : Array Value := #[]
theorem laid_met (os : Os) : laidMet Tryz.prog Rows.fnExactNewWorldRow.laid ((laidWorld os).forCall (fun _ _ => 0) ⟨#[], arg0, []⟩).memory :=
  laidMet_of_run' 8 (by kernel_rfl) (by kernel_rfl)
theorem reads (os : Os) {H : Type} (enc : TypeId × Value → H) : ∃ places, DataW.whole enc Tryz.prog ((laidWorld os).forCall (fun _ _ => 0) ⟨#[], arg0, []⟩).memory Tryz.f4.params.toList Rows.fnExactNewWorldSpec.vars false arg0.toList 12 = some ([], [], places) :=
  ⟨[], by kernel_rfl⟩
set_option maxRecDepth 100000 in
theorem lifted (os : Os) (started : os.Started) (H : Type) (enc : TypeId × Value → H) (F : Stop.Interp) :
    ReturnsInHanded {} Tryz.checked os 4 .any ((OpenSpec.ofChange Rows.fnExactNewWorldSpec).preRow enc Tryz.prog Tryz.f4 Rows.fnExactNewWorldRow.domain false Rows.fnExactNewWorldRow.laid) (((OpenSpec.ofChange Rows.fnExactNewWorldSpec).at F).post enc Tryz.prog Tryz.f4 false true false false) := by
  obtain ⟨places, hx⟩ := reads os enc
  refine returnsInHanded_of_row (C := Tryz.checked) (s := OpenSpec.ofChange Rows.fnExactNewWorldSpec) own started (by kernel_rfl) Tryz.func4
    (witness_row_at (enc := enc) (C := Tryz.checked) false (laidWorld os) arg0 rfl (by kernel_rfl) (by kernel_rfl) (by kernel_rfl)
      (OpenSpec.preRow_of_cond 12 hx (by kernel_rfl) (fun k hk => by cases hk) (by kernel_rfl) (laid_met os))) ?_
  intro W base args ds gs before hval hW _ _ _ hL _ _
  exact contract H enc W base args ds gs before hval hW hL
set_option maxRecDepth 100000 in
set_option maxHeartbeats 0 in
theorem facts : joinedFacts Tryz.pinned.checked.prog 4 Tryz.f4 Rows.fnExactNewWorldSpec Rows.fnExactNewWorldRow = true := by
  delta joinedFacts
  with_reducible repeat' apply and_i
  all_goals (first | with_reducible exact enters | (rw [makes]; kernel_rfl) | (rw [lifts]; kernel_rfl) | decide +kernel | kernel_rfl)
theorem said : Rows.FnExactNewWorldSaid :=
  OpenClaim.holds_of_cond 4 Tryz.f4 rfl rfl rfl rfl rfl rfl rfl ⟨rfl, rfl, rfl, rfl, rfl⟩ rfl rfl rfl rfl rfl (by kernel_rfl) Tryz.func4 facts
    (of_decide_eq_true (by kernel_rfl)) (by unfold Func.isWrapper; first | (rw [if_pos (by decide +kernel)]; kernel_rfl) | (rw [if_neg (by decide +kernel)]; exact ⟨rfl, rfl⟩))
    (fun os started H enc _ F => by rw [OpenClaim.pre_eq_preRow]; exact lifted os started H enc F)
theorem plain (k : FuncId) (fn : Func) (hf : Tryz.pinned.checked.prog.funcNamed Rows.fnExactNewWorldRow.func = some k) (hfn : Tryz.pinned.checked.prog.funcs[k]? = some fn) :
    true = Tryz.pinned.checked.prog.looks [] ∧ ∀ (j : Nat) t, fn.params[j]? = some t → Tryz.pinned.checked.prog.wantsStandIn t = false := by
  obtain rfl : k = 4 := Option.some.inj ((show Tryz.prog.funcNamed Rows.fnExactNewWorldRow.func = some 4 by kernel_rfl).symm.trans hf) |>.symm
  obtain rfl : fn = Tryz.f4 := (Option.some.inj (Tryz.func4.symm.trans hfn)).symm
  refine ⟨by kernel_rfl, fun j t ht => ?_⟩
  rw [Tryz.params4] at ht
  have hm := Array.mem_of_getElem? ht
  simp at hm
theorem proved : Rows.FnExactNewWorldCardSaid :=
  Claim7.holds_tied_plain_at .later [] _ _ _ _ said (fun _ h => by cases h) (by kernel_rfl) (fun _ h => by cases h) fnExactNewWorld_row_tie rfl ⟨rfl, rfl⟩ (by kernel_rfl) rfl plain (by kernel_rfl)
end Go.Proofs.YtjgbkigdnjalkaaGreatDoor.fnExactNewWorld
end
