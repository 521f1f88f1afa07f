/- Alpha equality is reflexive and symmetric on what is drawn, and equal terms have the same free variables and the same size: FnAlpha. No condition. -/
import Derived.Test.YtgeegppaaggcjaaAlf1
section
namespace Go.Proofs.Ytgeegppaaggcjaa
open Go Go.Proofs.Ytgeegppaaggcjaa.Ab
set_option linter.unusedVariables false
set_option linter.unusedSimpArgs false
set_option maxHeartbeats 4000000
abbrev P_c_sCopyD (x : Datum) : Ct := ⟨46, [], [datumA x], datumO x, .sv (datumR x 0)⟩
def lc_sCopyD_sLa (x : Datum) : Lp Nat := .mk 29 0 (fun x_1 => [(2, SV.one (AC.ptr 0 0)), (3, SV.one (AC.ptr 1 0)), (14, ll (List.map datumC x.items)), (15, li (↑(List.map datumC
 x.items).length : Int)), (16, hs x_1 0)]) (fun x_1 => [Ob.box [vI 0, vI 0, vS (ByteArray.mk #[]), AC.val (Cell.lit (Value.slice none 0 0))], Ob.box [vI x.kind, vI x.number, vS
 x.text, AC.ref 2], ho x_1 1]) (fun k => [.s (li (↑k : Int)), .o (Ob.arr true 4 (List.map datumC (List.take k x.items)))]) (fun k => k ≤ x.items.length ∧ x.items.length ≤
 9223372036854775807) (fun k => x.items.length - k) [.mk True (.exit 0) (fun x => [(2, SV.one (AC.ptr 0 0)), (3, SV.one (AC.ptr 1 0))]) (fun x_1 => [Ob.box [vI 0, vI 0, vS
 (ByteArray.mk #[]), AC.val (Cell.lit (Value.slice none 0 0))], Ob.box [vI x.kind, vI x.number, vS x.text, AC.ref 2], ho x_1 0]) [.o (Ob.arr true 4 (List.map datumC x.items))]]
theorem Sc_sCopyD_sLa (x : Datum) (h : wD x ≤ 1048576) (ih : ∀ (z : Datum), z ∈ x.items → wD z ≤ 1048576 → OK (P_c_sCopyD z)) : Lp.Sem Try.prog (loopAt Try.f46 0) (lc_sCopyD_sLa x)
 := lpOK (fun k => .i ((↑k : Int) < (↑(List.map datumC x.items).length : Int)) (.x (↑k : Int) (List.map datumC x.items) (datumF (x.items.getD k default)) (.w (.draw [(4, [4]), (5,
 [2, 12]), (7, [1])]) (.d [.rd] (P_c_sCopyD (x.items.getD k default)) (.p (((List.map datumC (List.take k x.items)).length + 1) * 56 ≤ 140737488355328) (.r ((↑k : Int) + 1) (.g [0,
 1, 13] (k + 1) [.s (li ((↑k : Int) + 1)), .o (Ob.arr true 4 (List.map datumC (List.take k x.items) ++ [datumF (x.items.getD k default)]))])))))) (.o 0 [0, 1, 2] [.o (Ob.arr true 4
 (List.map datumC (List.take k x.items)))])) (by
  intro k h; try dsimp only [teasy, nthW, lc_sCopyD_sLa] at h ⊢
  have g1 := wD_eq x
  have g2 := @sumBy_mem _ wD x.items (x.items.getD k default)
  with_reducible repeat' (first | apply And.intro | exact zR | exact ih | (intro; skip) | apply ih)
  all_goals (try simp only [std, inj] at *)
  all_goals with_reducible repeat' apply And.intro
  all_goals (try (first | with_reducible apply ih | (simp only [← List.map_append]; first | with_reducible apply ih)))
  all_goals (try (first | exact z | grind [take_get, getD_mem', snocI, snocS, rowSnoc, getD_mem'])))
theorem c_sCopyD_s (x : Datum) (h : wD x ≤ 1048576) (ih : ∀ z ∈ x.items, ∀ (h : wD z ≤ 1048576), P_c_sCopyD z)  : P_c_sCopyD x := fnOK Try.call46 Try.func46 (.z datumC x.items (.w
 (.ghost (.nilbox 2 3 true 4)) (.l (lc_sCopyD_sLa x) (Sc_sCopyD_sLa x h ih) [1, 2, 3] [.s (li 0), .o (Ob.arr true 4 [])] 0 (.t (.f [2] [Ob.arr true 4 (List.map datumC x.items)]
 (AV.sv (SV.agg [vI x.kind, vI x.number, vS x.text, AC.ref 0]))) .q)))) (by
  dsimp only [teasy, P_c_sCopyD, nthW, lc_sCopyD_sLa]
  with_reducible repeat' (first | apply And.intro | exact zR | exact ih | (intro; skip))
  all_goals (try simp only [std, inj] at *)
  all_goals with_reducible repeat' apply And.intro
  all_goals (try (first | with_reducible apply ih | (simp only [← List.map_append]; first | with_reducible apply ih)))
  all_goals (try (first | exact z | grind [snocI, snocS, rowSnoc])))
theorem c_sCopyD (x : Datum) : ∀ (h : wD x ≤ 1048576), P_c_sCopyD x := Datum.ind (P := fun x => ∀ (h : wD x ≤ 1048576), P_c_sCopyD x) (fun x ih h => c_sCopyD_s x h ih) x
abbrev P_c_sCopyC (c : Core) : Ct := ⟨30, [], [coreA c], coreO c, .sv (coreR c 0)⟩
def lc_sCopyC_sLa (c : Core) : Lp Nat := .mk 33 0 (fun x => [(2, SV.one (AC.ptr 0 0)), (3, SV.one (AC.ptr 1 0)), (18, ll (List.map coreC c.kids)), (19, li (↑(List.map coreC
 c.kids).length : Int)), (20, hs x 0)]) (fun x => [Ob.box [vI 0, vI 0, AC.val (Cell.lit (Value.slice none 0 0)), vI 0, vI 0, vS (ByteArray.mk #[]), AC.val (Cell.lit (Value.slice
 none 0 0)), AC.val (Cell.lit (Value.slice none 0 0))], Ob.box [vI c.kind, vI c.number, AC.ref 2, vI c.datum.kind, vI c.datum.number, vS c.datum.text, AC.ref 3, AC.ref 4], Ob.arr
 true 1 (List.map intC c.params), Ob.arr true 4 (List.map datumC c.datum.items), ho x 1]) (fun k => [.s (li (↑k : Int)), .o (Ob.arr true 8 (List.map coreC (List.take k c.kids)))])
 (fun k => k ≤ c.kids.length ∧ c.kids.length ≤ 9223372036854775807) (fun k => c.kids.length - k) [.mk True (.exit 0) (fun x => [(2, SV.one (AC.ptr 0 0)), (3, SV.one (AC.ptr 1 0))])
 (fun x => [Ob.box [vI 0, vI 0, AC.val (Cell.lit (Value.slice none 0 0)), vI 0, vI 0, vS (ByteArray.mk #[]), AC.val (Cell.lit (Value.slice none 0 0)), AC.val (Cell.lit (Value.slice
 none 0 0))], Ob.box [vI c.kind, vI c.number, AC.ref 2, vI c.datum.kind, vI c.datum.number, vS c.datum.text, AC.ref 3, AC.ref 4], Ob.arr true 1 (List.map intC c.params), Ob.arr
 true 4 (List.map datumC c.datum.items), ho x 0]) [.o (Ob.arr true 8 (List.map coreC c.kids))]]
theorem Sc_sCopyC_sLa (c : Core) (h : wC c ≤ 1048576) (ih : ∀ (z : Core), z ∈ c.kids → wC z ≤ 1048576 → OK (P_c_sCopyC z)) : Lp.Sem Try.prog (loopAt Try.f30 0) (lc_sCopyC_sLa c) :=
 lpOK (fun k => .i ((↑k : Int) < (↑(List.map coreC c.kids).length : Int)) (.x (↑k : Int) (List.map coreC c.kids) (coreF (c.kids.getD k default)) (.w (.draw [(4, [6, 7, 8]), (5, [4,
 14]), (7, [1])]) (.d [.rd] (P_c_sCopyC (c.kids.getD k default)) (.p (((List.map coreC (List.take k c.kids)).length + 1) * 120 ≤ 140737488355328) (.r ((↑k : Int) + 1) (.g [0, 1, 2,
 3, 15] (k + 1) [.s (li ((↑k : Int) + 1)), .o (Ob.arr true 8 (List.map coreC (List.take k c.kids) ++ [coreF (c.kids.getD k default)]))])))))) (.o 0 [0, 1, 2, 3, 4] [.o (Ob.arr true
 8 (List.map coreC (List.take k c.kids)))])) (by
  intro k h; try dsimp only [teasy, nthW, lc_sCopyC_sLa] at h ⊢
  have g1 := wC_eq c
  have g2 := @sumBy_mem _ wC c.kids (c.kids.getD k default)
  with_reducible repeat' (first | apply And.intro | exact zR | exact ih | (intro; skip) | apply c_l2Ints | apply c_sCopyD | apply ih)
  all_goals (try simp only [std, inj] at *)
  all_goals with_reducible repeat' apply And.intro
  all_goals (try (first | with_reducible apply c_l2Ints | with_reducible apply c_sCopyD | with_reducible apply ih | (simp only [← List.map_append]; first | with_reducible apply c_l2Ints | with_reducible apply c_sCopyD | with_reducible apply ih)))
  all_goals (try (first | exact z | grind [take_get, getD_mem', snocI, snocS, rowSnoc, getD_mem'])))
theorem c_sCopyC_s (c : Core) (h : wC c ≤ 1048576) (ih : ∀ z ∈ c.kids, ∀ (h : wC z ≤ 1048576), P_c_sCopyC z)  : P_c_sCopyC c := fnOK Try.call30 Try.func30 (.w (.draw [(12, [18])])
 (.d [.rd] (P_c_l2Ints c.params) (.d [.rd] (P_c_sCopyD c.datum) (.z coreC c.kids (.w (.ghost (.nilbox 18 7 true 8)) (.l (lc_sCopyC_sLa c) (Sc_sCopyC_sLa c h ih) [1, 18, 2, 10, 19]
 [.s (li 0), .o (Ob.arr true 8 [])] 0 (.t (.f [2, 3, 4] [Ob.arr true 1 (List.map intC c.params), Ob.arr true 4 (List.map datumC c.datum.items), Ob.arr true 8 (List.map coreC
 c.kids)] (AV.sv (SV.agg [vI c.kind, vI c.number, AC.ref 0, vI c.datum.kind, vI c.datum.number, vS c.datum.text, AC.ref 1, AC.ref 2]))) .q))))))) (by
  dsimp only [teasy, P_c_sCopyC, nthW, lc_sCopyC_sLa]
  have g1 := wC_eq c
  with_reducible repeat' (first | apply And.intro | exact zR | exact ih | (intro; skip) | apply c_l2Ints | apply c_sCopyD)
  all_goals (try simp only [std, inj] at *)
  all_goals with_reducible repeat' apply And.intro
  all_goals (try (first | with_reducible apply c_l2Ints | with_reducible apply c_sCopyD | with_reducible apply ih | (simp only [← List.map_append]; first | with_reducible apply c_l2Ints | with_reducible apply c_sCopyD | with_reducible apply ih)))
  all_goals (try (first | exact z | grind [snocI, snocS, rowSnoc])))
theorem c_sCopyC (c : Core) : ∀ (h : wC c ≤ 1048576), P_c_sCopyC c := Core.ind (P := fun c => ∀ (h : wC c ≤ 1048576), P_c_sCopyC c) (fun c ih h => c_sCopyC_s c h ih) c
end Go.Proofs.Ytgeegppaaggcjaa
end
section
namespace Go.Proofs.Ytgeegppaaggcjaa
open Go Go.Proofs.Ytgeegppaaggcjaa.Ab
set_option linter.unusedVariables false
set_option linter.unusedSimpArgs false
set_option maxHeartbeats 4000000
abbrev P_c_iSizC (c : Core) : Ct := ⟨10, [], [coreA c], [], .sv (li (sizeC c))⟩
def lc_iSizC_sLa (c : Core) : Lp Nat := .mk 19 0 (fun x => [(3, hs x 1), (7, ll (List.map coreC c.kids)), (8, li (↑(List.map coreC c.kids).length : Int)), (9, hs x 0)]) (fun x =>
 []) (fun k => [.s (li (↑k : Int)), .s (li (↑(1 + sumBy sizeC (List.take k c.kids)) : Int))]) (fun k => k ≤ c.kids.length ∧ c.kids.length ≤ 9223372036854775807) (fun k =>
 c.kids.length - k) [.mk True (.exit 0) (fun x => [(3, hs x 0)]) (fun x => []) [.s (li (↑(1 + sumBy sizeC c.kids) : Int))]]
theorem Sc_iSizC_sLa (c : Core) (h : sizeC c ≤ 2147483647) (ih : ∀ (z : Core), z ∈ c.kids → sizeC z ≤ 2147483647 → OK (P_c_iSizC z)) : Lp.Sem Try.prog (loopAt Try.f10 0)
 (lc_iSizC_sLa c) := lpOK (fun k => .i ((↑k : Int) < (↑(List.map coreC c.kids).length : Int)) (.x (↑k : Int) (List.map coreC c.kids) (coreF (c.kids.getD k default)) (.d [.rd]
 (P_c_iSizC (c.kids.getD k default)) (.r ((↑(1 + sumBy sizeC (List.take k c.kids)) : Int) + (↑(sizeC (c.kids.getD k default)) : Int)) (.r ((↑k : Int) + 1) (.g [] (k + 1) [.s (li
 ((↑k : Int) + 1)), .s (li ((↑(1 + sumBy sizeC (List.take k c.kids)) : Int) + (↑(sizeC (c.kids.getD k default)) : Int)))]))))) (.o 0 [] [.s (li (↑(1 + sumBy sizeC (List.take k
 c.kids)) : Int))])) (by
  intro k h; try dsimp only [teasy, nthW, lc_iSizC_sLa] at h ⊢
  have g1 := sizeC_eq c
  have g2 := sumBy_takeLe sizeC c.kids (k + 1)
  have g3 := @sumBy_step _ _ sizeC c.kids k
  have g4 := @sumBy_mem _ sizeC c.kids (c.kids.getD k default)
  with_reducible repeat' (first | apply And.intro | exact zR | exact ih | (intro; skip) | apply ih)
  all_goals (try simp only [std, inj] at *)
  all_goals with_reducible repeat' apply And.intro
  all_goals (try (first | with_reducible apply ih | (simp only [← List.map_append]; first | with_reducible apply ih)))
  all_goals (try (first | exact z | grind [getD_mem', snocI, snocS, rowSnoc])))
theorem c_iSizC_s (c : Core) (h : sizeC c ≤ 2147483647) (ih : ∀ z ∈ c.kids, ∀ (h : sizeC z ≤ 2147483647), P_c_iSizC z)  : P_c_iSizC c := fnOK Try.call10 Try.func10 (.z coreC c.kids
 (.l (lc_iSizC_sLa c) (Sc_iSizC_sLa c h ih) [] [.s (li 0), .s (li 1)] 0 (.t (.s (li (↑(1 + sumBy sizeC c.kids) : Int))) .q))) (by
  dsimp only [teasy, P_c_iSizC, nthW, lc_iSizC_sLa]
  have g1 := sizeC_eq c
  have g2 : sumBy sizeC (c.kids.take 0) = 0 := rfl
  with_reducible repeat' (first | apply And.intro | exact zR | exact ih | (intro; skip))
  all_goals (try simp only [std, inj] at *)
  all_goals with_reducible repeat' apply And.intro
  all_goals (try (first | with_reducible apply ih | (simp only [← List.map_append]; first | with_reducible apply ih)))
  all_goals (try (first | exact z | grind [snocI, snocS, rowSnoc])))
theorem c_iSizC (c : Core) : ∀ (h : sizeC c ≤ 2147483647), P_c_iSizC c := Core.ind (P := fun c => ∀ (h : sizeC c ≤ 2147483647), P_c_iSizC c) (fun c ih h => c_iSizC_s c h ih) c
abbrev P_c_sFlat (K : List Core) : Ct := ⟨56, [.arr true 8 (K.map coreC)], [.one (.ref 0)], .dead :: coreO (flat1 K), .sv (coreR (flat1 K) 1)⟩
def lc_sFlatLa (K : List Core) : Lp Nat := .mk 33 1 (fun x => [(2, SV.one (AC.ptr 1 0)), (3, SV.one (AC.ref 2)), (7, SV.one (AC.ref 3)), (8, li (↑(List.map coreC K).length : Int)),
 (9, hs x 0)]) (fun x => [Ob.dead, Ob.box [vI 0, vI 0, AC.val (Cell.lit (Value.slice none 0 0)), vI 0, vI 0, vS (ByteArray.mk #[]), AC.val (Cell.lit (Value.slice none 0 0)), AC.val
 (Cell.lit (Value.slice none 0 0))], ho x 2, ho x 1]) (fun k => [.s (li (↑k : Int)), .o (Ob.arr true 8 (List.map coreX (List.take k K) ++ List.map coreC (List.drop k K))), .o
 (Ob.arr true 8 (List.map coreC (flatC (List.take k K))))]) (fun k => k ≤ K.length ∧ K.length ≤ 9223372036854775807) (fun k => K.length - k) [.mk True (.exit 0) (fun x => [(2,
 SV.one (AC.ptr 1 0)), (3, SV.one (AC.ref 2))]) (fun x => [Ob.dead, Ob.box [vI 0, vI 0, AC.val (Cell.lit (Value.slice none 0 0)), vI 0, vI 0, vS (ByteArray.mk #[]), AC.val
 (Cell.lit (Value.slice none 0 0)), AC.val (Cell.lit (Value.slice none 0 0))], ho x 0]) [.o (Ob.arr true 8 (List.map coreC (flatC K)))]]
theorem Sc_sFlatLa (K : List Core) (h : (flatC K).length ≤ 2147483647 ∧ K.length ≤ 2147483647) : Lp.Sem Try.prog (loopAt Try.f56 0) (lc_sFlatLa K) := lpOK (fun k => .i ((↑k : Int)
 < (↑(List.map coreC K).length : Int)) (.p (0 ≤ (↑k : Int) ∧ (↑k : Int).toNat < (List.map coreX (List.take k K) ++ List.map coreC (List.drop k K)).length) (.w (.subs (coreF (K.getD
 k default))) (.p ((List.map coreX (List.take k K) ++ List.map coreC (List.drop k K))[(↑k : Int).toNat]? = some (coreF (K.getD k default))) (.w (.ghost (.pull 4 (coreF (K.getD k
 default)) [(2, 1), (6, 4), (7, 8)])) (.p ((List.map coreX (List.take k K) ++ List.map coreC (List.drop k K))[(↑k : Int).toNat]? = some (coreF (K.getD k default))) (.p ((↑k :
 Int).toNat = (↑k : Int).toNat) (.p (∀ (x : List Cell), x ∈ List.map intC (K.getD k default).params → x.length = 1) (.p ((↑k : Int).toNat = (↑k : Int).toNat) (.p (∀ (x : List
 Cell), x ∈ List.map datumC (K.getD k default).datum.items → x.length = 4) (.p ((↑k : Int).toNat = (↑k : Int).toNat) (.p (∀ (x : List Cell), x ∈ List.map coreC (K.getD k
 default).kids → x.length = 8) (.i ((K.getD k default).kind = 8) (.p (((List.map coreC (flatC (List.take k K))).length + (List.map coreC (K.getD k default).kids).length) * 120 ≤
 140737488355328) (.r ((↑k : Int) + 1) (.g [0, 1, 8, 3] (k + 1) [.s (li ((↑k : Int) + 1)), .o (Ob.arr true 8 ((List.map coreX (List.take k K) ++ List.map coreC (List.drop k K)).set
 (↑k : Int).toNat [cI (K.getD k default).kind, cI (K.getD k default).number, Cell.any, cI (K.getD k default).datum.kind, cI (K.getD k default).datum.number, cS (K.getD k
 default).datum.text, Cell.any, Cell.any])), .o (Ob.arr true 8 (List.map coreC (flatC (List.take k K)) ++ List.map coreC (K.getD k default).kids))]))) (.p (((List.map coreC (flatC
 (List.take k K))).length + 1) * 120 ≤ 140737488355328) (.r ((↑k : Int) + 1) (.g [0, 1, 9, 3] (k + 1) [.s (li ((↑k : Int) + 1)), .o (Ob.arr true 8 ((List.map coreX (List.take k K)
 ++ List.map coreC (List.drop k K)).set (↑k : Int).toNat [cI (K.getD k default).kind, cI (K.getD k default).number, Cell.any, cI (K.getD k default).datum.kind, cI (K.getD k
 default).datum.number, cS (K.getD k default).datum.text, Cell.any, Cell.any])), .o (Ob.arr true 8 (List.map coreC (flatC (List.take k K)) ++ [coreF (K.getD k
 default)]))]))))))))))))))) (.o 0 [0, 1, 2] [.o (Ob.arr true 8 (List.map coreC (flatC (List.take k K))))])) (by
  intro k h; try dsimp only [teasy, nthW, lc_sFlatLa] at h ⊢
  have g1 := @outC_step K k
  have g2 := @outC_getF K k
  have g3 := outC_len K k
  have g4 := @flatC_step K k
  have g5 := flatC_takeLe K (k + 1)
  have g6 : partC (K.getD k default) = if (K.getD k default).kind = 8 then (K.getD k default).kids else [K.getD k default] := rfl
  with_reducible repeat' (first | apply And.intro | exact zR | (intro; skip))
  all_goals (try simp only [std, inj] at *)
  all_goals with_reducible repeat' apply And.intro
  all_goals (try (first | exact z | grind [snocI, snocS, rowSnoc])))
theorem c_sFlat (K : List Core) (h : (flatC K).length ≤ 2147483647 ∧ K.length ≤ 2147483647)  : P_c_sFlat K := fnOK Try.call56 Try.func56 (.w (.bool false) (.z coreC K (.w (.ghost
 (.move 0)) (.l (lc_sFlatLa K) (Sc_sFlatLa K h) [0, 1, 2, 3] [.s (li 0), .o (Ob.arr true 8 (List.map coreC K)), .o (Ob.arr true 8 [])] 0 (.t (.z coreC (flatC K) (.i ((↑(List.map
 coreC (flatC K)).length : Int) = 1) (.p ((0 : Int) ≤ 0 ∧ 0 < (List.map coreC (flatC K)).length) (.w (.subs (coreF ((flatC K).getD 0 default))) (.p ((List.map coreC (flatC K))[0]?
 = some (coreF ((flatC K).getD 0 default))) (.w (.ghost (.pull 1 (coreF ((flatC K).getD 0 default)) [(2, 1), (6, 4), (7, 8)])) (.p ((List.map coreC (flatC K))[0]? = some (coreF
 ((flatC K).getD 0 default))) (.p (0 = 0) (.p (∀ (x : List Cell), x ∈ List.map intC ((flatC K).getD 0 default).params → x.length = 1) (.p (0 = 0) (.p (∀ (x : List Cell), x ∈
 List.map datumC ((flatC K).getD 0 default).datum.items → x.length = 4) (.p (0 = 0) (.p (∀ (x : List Cell), x ∈ List.map coreC ((flatC K).getD 0 default).kids → x.length = 8) (.f
 [3, 4, 5] [Ob.dead, Ob.arr true 1 (List.map intC ((flatC K).getD 0 default).params), Ob.arr true 4 (List.map datumC ((flatC K).getD 0 default).datum.items), Ob.arr true 8
 (List.map coreC ((flatC K).getD 0 default).kids)] (AV.sv (SV.agg [vI ((flatC K).getD 0 default).kind, vI ((flatC K).getD 0 default).number, AC.ref 1, vI ((flatC K).getD 0
 default).datum.kind, vI ((flatC K).getD 0 default).datum.number, vS ((flatC K).getD 0 default).datum.text, AC.ref 2, AC.ref 3])))))))))))))) (.w (.ghost (.nilbox 1 2 true 1)) (.w
 (.ghost (.nilbox 1 6 true 4)) (.f [3, 4, 2] [Ob.dead, Ob.arr true 1 [], Ob.arr true 4 [], Ob.arr true 8 (List.map coreC (flatC K))] (AV.sv (SV.agg [vI 8, vI 0, AC.ref 1, vI 0, vI
 0, vS (ByteArray.mk #[]), AC.ref 2, AC.ref 3]))))))) .q))))) (by
  dsimp only [teasy, P_c_sFlat, nthW, lc_sFlatLa]
  have g1 := outC_zero K
  have g2 := flat0 K
  with_reducible repeat' (first | apply And.intro | exact zR | (intro; skip))
  all_goals (try simp only [std, inj] at *)
  all_goals with_reducible repeat' apply And.intro
  all_goals (try (first | exact z | grind [flat1, snocI, snocS, rowSnoc])))
end Go.Proofs.Ytgeegppaaggcjaa
end
section
namespace Go.Proofs.Ytgeegppaaggcjaa
open Go Go.Proofs.Ytgeegppaaggcjaa.Ab
set_option linter.unusedVariables false
set_option linter.unusedSimpArgs false
set_option maxHeartbeats 4000000
abbrev P_c_dFre (c : Cr) (n : Int) : Ct := ⟨54, [.box [.ptr 1 0, vI n], crO c], [.one (.ptr 0 0)], mkO ⟨c, n + 1⟩, .sv (li (n + 1))⟩
theorem c_dFre (c : Cr) (n : Int) (h : 0 ≤ n ∧ n ≤ 100000)  : P_c_dFre c n := fnOK Try.call54 Try.func54 (.r (n + 1) (.f [] [Ob.box [AC.ptr 1 0, vI (n + 1)], Ob.box [vL (List.map
 byteC c.b), vI (↑c.i : Int), vI c.h]] (AV.sv (li (n + 1))))) (by
  dsimp only [teasy, P_c_dFre]
  with_reducible repeat' (first | apply And.intro | exact zR | (intro; skip))
  all_goals (try simp only [std, inj] at *)
  all_goals with_reducible repeat' apply And.intro
  all_goals first | omega | rfl)
abbrev P_c_dLeaf (c : Cr) (n : Int) (S : List Int) : Ct := ⟨53, [.box [.ptr 1 0, vI n], crO c], [.one (.ptr 0 0), ll (S.map intC)], mkO (leafH ⟨c, n⟩ S).2 ++ coreO (leafH ⟨c, n⟩ S).1, .sv (coreR (leafH ⟨c, n⟩ S).1 2)⟩
theorem c_dLeaf (c : Cr) (n : Int) (S : List Int) (h : okK c ∧ S.length ≤ 1000)  : P_c_dLeaf c n S := fnOK Try.call53 Try.func53 (let v8 := (beC c 6); let v1 := [Ob.box [AC.ptr 1
 0, vI n], Ob.box [vL (List.map byteC (drwH 2 v8).snd.b), vI (↑(drwH 2 v8).snd.i : Int), vI (drwH 2 v8).snd.h], Ob.arr true 1 [], Ob.arr true 4 (List.map datumC (drwH 2
 v8).fst.items), Ob.arr true 8 []]; let v2 := (AV.sv (SV.agg [vI 1, vI 0, AC.ref 2, vI (drwH 2 v8).fst.kind, vI (drwH 2 v8).fst.number, vS (drwH 2 v8).fst.text, AC.ref 3, AC.ref
 4])); let v7 := (↑(List.map intC S).length : Int); let v3 := [Ob.box [AC.ptr 1 0, vI n], Ob.box [vL (List.map byteC (beC v8 v7).b), vI (↑(beC v8 v7).i : Int), vI (beC v8 v7).h],
 Ob.arr true 1 [], Ob.arr true 4 [], Ob.arr true 8 []]; let v4 := (AV.sv (SV.agg [vI 2, vI (S.getD (beX v8 v7).toNat 0), AC.ref 2, vI 0, vI 0, vS (ByteArray.mk #[]), AC.ref 3,
 AC.ref 4])); let v5 := [cI (S.getD (beX v8 v7).toNat 0)]; let v6 := (P_c_dBelow v8 v7); let v9 := [5, 4, 6]; let v10 := [3, 4, 5]; .d [.ptr, .rd] (P_c_dBelow c 6) (.i (beX c (6 :
 Int) = 0) (.y true (.z intC S (.i (0 < v7) (.z intC S (.d [.ptr, .rd] v6 (.x (beX v8 v7) (List.map intC S) v5 (.w (.ghost (.nilbox 2 2 true 1)) (.w (.ghost (.nilbox 2 6 true 4))
 (.w (.ghost (.nilbox 2 7 true 8)) (.f v10 v3 v4))))))) (.d [.ptr, .rd] (P_c_dDat 2 v8) (.w (.ghost (.nilbox 2 2 true 1)) (.w (.ghost (.nilbox 2 7 true 8)) (.f v9 v1 v2))))))) (.i
 (beX c (6 : Int) = 1) (.y true (.z intC S (.i (0 < v7) (.z intC S (.d [.ptr, .rd] v6 (.x (beX v8 v7) (List.map intC S) v5 (.w (.ghost (.nilbox 2 2 true 1)) (.w (.ghost (.nilbox 2
 6 true 4)) (.w (.ghost (.nilbox 2 7 true 8)) (.f v10 v3 v4))))))) (.d [.ptr, .rd] (P_c_dDat 2 v8) (.w (.ghost (.nilbox 2 2 true 1)) (.w (.ghost (.nilbox 2 7 true 8)) (.f v9 v1
 v2))))))) (.i (beX c (6 : Int) = 2) (.z intC S (.i (0 < v7) (.z intC S (.d [.ptr, .rd] v6 (.x (beX v8 v7) (List.map intC S) v5 (.w (.ghost (.nilbox 2 2 true 1)) (.w (.ghost
 (.nilbox 2 6 true 4)) (.w (.ghost (.nilbox 2 7 true 8)) (.f v10 v3 v4))))))) (.d [.ptr, .rd] (P_c_dDat 2 v8) (.w (.ghost (.nilbox 2 2 true 1)) (.w (.ghost (.nilbox 2 7 true 8))
 (.f v9 v1 v2)))))) (.i (beX c (6 : Int) = 3) (.d [.ptr, .rd] (P_c_dBelow v8 14) (.w (.ghost (.nilbox 2 2 true 1)) (.w (.ghost (.nilbox 2 6 true 4)) (.w (.ghost (.nilbox 2 7 true
 8)) (.f v10 [Ob.box [AC.ptr 1 0, vI n], Ob.box [vL (List.map byteC (beC v8 14).b), vI (↑(beC v8 14).i : Int), vI (beC v8 14).h], Ob.arr true 1 [], Ob.arr true 4 [], Ob.arr true 8
 []] (AV.sv (SV.agg [vI 3, vI (beX v8 14), AC.ref 2, vI 0, vI 0, vS (ByteArray.mk #[]), AC.ref 3, AC.ref 4]))))))) (.d [.ptr, .rd] (P_c_dDat 2 v8) (.w (.ghost (.nilbox 2 2 true 1))
 (.w (.ghost (.nilbox 2 7 true 8)) (.f v9 v1 v2))))))))) (by
  dsimp only [teasy, P_c_dLeaf]
  have ok1 : okK (beC c 6) := beC_ok h.1
  have b6 := beX_le c (n := 6) (by decide)
  have bS : 0 < (S.length : Int) → 0 ≤ beX (beC c 6) (S.length : Int) ∧ beX (beC c 6) (S.length : Int) < (S.length : Int) := fun a => beX_le _ a
  have f0 := @leaf_v ⟨c, n⟩ S
  have f3 := @leaf_p ⟨c, n⟩ S
  have fq := @leaf_q ⟨c, n⟩ S
  dsimp only at f0 f3 fq
  have rg : 0 < (S.length : Int) → (S.map intC)[(beX (beC c 6) (S.length : Int)).toNat]? = some (intF (S.getD (beX (beC c 6) (S.length : Int)).toNat default)) := fun a => rowGet (by have := bS a; omega)
  with_reducible repeat' (first | apply And.intro | exact zR | (intro; skip) | apply c_dBelow | apply c_dDat)
  all_goals (try simp only [std, inj] at *)
  all_goals with_reducible repeat' apply And.intro
  all_goals (try (first | with_reducible apply c_dBelow | with_reducible apply c_dDat | (simp only [← List.map_append]; first | with_reducible apply c_dBelow | with_reducible apply c_dDat)))
  all_goals first
    | exact True.intro | with_reducible rfl | with_reducible assumption | omega | exact h.1 | exact ⟨by with_reducible assumption, by omega⟩
    | exact rg (by omega)
    | (rw [f0 (by omega) (by omega)]; first | done | rfl)
    | (rw [f3 (by omega)]; first | done | rfl)
    | (rw [fq (by omega) (by omega)]; first | done | rfl))
abbrev P_c_dKids (d : Int) (q : Int) (c : Cr) (n : Int) (S : List Int) : Ct := ⟨55, [.box [.ptr 1 0, vI n], crO c], [.one (.ptr 0 0), li d, ll (S.map intC), li q], mkO (kidH d S q.toNat ⟨c, n⟩).2 ++ [.arr true 8 ((kidH d S q.toNat ⟨c, n⟩).1.map coreC)], .sv (.one (.ref 2))⟩
abbrev P_c_dCor (d : Int) (c : Cr) (n : Int) (S : List Int) : Ct := ⟨43, [.box [.ptr 1 0, vI n], crO c], [.one (.ptr 0 0), li d, ll (S.map intC)], mkO (corH d ⟨c, n⟩ S).2 ++ coreO (corH d ⟨c, n⟩ S).1, .sv (coreR (corH d ⟨c, n⟩ S).1 2)⟩
def lc_dKidsLa (d : Int) (q : Int) (c : Cr) (n : Int) (S : List Int) : Lp Nat := .mk 25 2 (fun x => [(0, SV.one (AC.ptr 0 0)), (1, li d), (2, ll (List.map intC S)), (3, li q), (9,
 SV.one (AC.ref 2)), (10, hs x 0)]) (fun x => [Ob.box [AC.ptr 1 0, ha x 1], ho x 2, ho x 3]) (fun k => [.s (li (↑k : Int)), .a (vI (kidH d S k (Mk.mk c n)).snd.n), .o (crO (kidH d
 S k (Mk.mk c n)).snd.c), .o (Ob.arr true 8 (List.map coreC (kidH d S k (Mk.mk c n)).fst))]) (fun k => k ≤ q.toNat ∧ q ≤ 3) (fun k => q.toNat - k) [.mk True (.exit 0) (fun x =>
 [(9, SV.one (AC.ref 2))]) (fun x => [Ob.box [AC.ptr 1 0, ha x 0], ho x 1, ho x 2]) [.a (vI (kidH d S q.toNat (Mk.mk c n)).snd.n), .o (crO (kidH d S q.toNat (Mk.mk c n)).snd.c), .o
 (Ob.arr true 8 (List.map coreC (kidH d S q.toNat (Mk.mk c n)).fst))]]
theorem Sc_dKidsLa (d : Int) (q : Int) (c : Cr) (n : Int) (S : List Int) (h : okK c ∧ 0 ≤ d ∧ d ≤ 3 ∧ (↑S.length : Int) + 3 * d ≤ 100 ∧ 0 ≤ n ∧ n + 1000 * d + (300 : Int) ≤ 10000 ∧
 0 ≤ q ∧ q ≤ 3) (ih : ∀ (c : Cr) (n : Int) (S : List Int), okK c ∧ 0 ≤ d ∧ d ≤ 4 ∧ (↑S.length : Int) + 3 * d ≤ 100 ∧ 0 ≤ n ∧ n + 1000 * d ≤ 10000 → OK (P_c_dCor d c n S)) : Lp.Sem
 Try.prog (loopAt Try.f55 0) (lc_dKidsLa d q c n S) := lpOK (fun k => .i ((↑k : Int) < q) (.d [.ptr, .rd, .rd] (P_c_dCor d (kidH d S k (Mk.mk c n)).snd.c (kidH d S k (Mk.mk c
 n)).snd.n S) (.p (((List.map coreC (kidH d S k (Mk.mk c n)).fst).length + 1) * 120 ≤ 140737488355328) (.r ((↑k : Int) + 1) (.g [0, 1, 9] (k + 1) [.s (li ((↑k : Int) + 1)), .a (vI
 (corH d (Mk.mk (kidH d S k (Mk.mk c n)).snd.c (kidH d S k (Mk.mk c n)).snd.n) S).snd.n), .o (Ob.box [vL (List.map byteC (corH d (Mk.mk (kidH d S k (Mk.mk c n)).snd.c (kidH d S k
 (Mk.mk c n)).snd.n) S).snd.c.b), vI (↑(corH d (Mk.mk (kidH d S k (Mk.mk c n)).snd.c (kidH d S k (Mk.mk c n)).snd.n) S).snd.c.i : Int), vI (corH d (Mk.mk (kidH d S k (Mk.mk c
 n)).snd.c (kidH d S k (Mk.mk c n)).snd.n) S).snd.c.h]), .o (Ob.arr true 8 (List.map coreC (kidH d S k (Mk.mk c n)).fst ++ [coreF (corH d (Mk.mk (kidH d S k (Mk.mk c n)).snd.c
 (kidH d S k (Mk.mk c n)).snd.n) S).fst]))])))) (.o 0 [0, 1, 2] [.a (vI (kidH d S k (Mk.mk c n)).snd.n), .o (Ob.box [vL (List.map byteC (kidH d S k (Mk.mk c n)).snd.c.b), vI
 (↑(kidH d S k (Mk.mk c n)).snd.c.i : Int), vI (kidH d S k (Mk.mk c n)).snd.c.h]), .o (Ob.arr true 8 (List.map coreC (kidH d S k (Mk.mk c n)).fst))])) (by
  intro k h; try dsimp only [teasy, nthW, lc_dKidsLa] at h ⊢
  have hh := ‹okK c ∧ _ ∧ d ≤ 3 ∧ _›
  have K := kidH_ok (d := d) (m := ⟨c, n⟩) S (n := k) hh.1 hh.2.2.1
  dsimp only at K
  have g1 := kidH_succ d S k ⟨c, n⟩
  with_reducible repeat' (first | apply And.intro | exact zR | exact ih | (intro; skip))
  all_goals (try simp only [std, inj] at *)
  all_goals with_reducible repeat' apply And.intro
  all_goals (try (first | with_reducible apply ih | (simp only [← List.map_append]; first | with_reducible apply ih)))
  all_goals first
    | exact True.intro | with_reducible rfl | omega
    | (have b : (k : Int) * 80 ≤ 240 := by omega
       refine ⟨K.1, ?_, ?_, ?_, ?_, ?_⟩ <;> omega)
    | (rw [g1]; first | done | rfl)
    | (rw [g1, List.map_append, ← coreC_eq]; first | done | rfl)
    | (have e : q.toNat = k := by omega
       rw [e]; first | done | rfl))
theorem c_dKids (d : Int) (q : Int) (c : Cr) (n : Int) (S : List Int) (h : okK c ∧ 0 ≤ d ∧ d ≤ 3 ∧ S.length + 3 * d ≤ 100 ∧ 0 ≤ n ∧ n + 1000 * d + 300 ≤ 10000 ∧ 0 ≤ q ∧ q ≤ 3) (ih
 : ∀ (c : Cr) (n : Int) (S : List Int) (h : okK c ∧ 0 ≤ d ∧ d ≤ 4 ∧ S.length + 3 * d ≤ 100 ∧ 0 ≤ n ∧ n + 1000 * d ≤ 10000), P_c_dCor d c n S)  : P_c_dKids d q c n S := fnOK
 Try.call55 Try.func55 (.w (.bool false) (.l (lc_dKidsLa d q c n S) (Sc_dKidsLa d q c n S h ih) [0, 1, 2] [.s (li 0), .a (vI n), .o (Ob.box [vL (List.map byteC c.b), vI (↑c.i :
 Int), vI c.h]), .o (Ob.arr true 8 [])] 0 (.t (.f [2] [Ob.box [AC.ptr 1 0, vI (kidH d S q.toNat (Mk.mk c n)).snd.n], Ob.box [vL (List.map byteC (kidH d S q.toNat (Mk.mk c
 n)).snd.c.b), vI (↑(kidH d S q.toNat (Mk.mk c n)).snd.c.i : Int), vI (kidH d S q.toNat (Mk.mk c n)).snd.c.h], Ob.arr true 8 (List.map coreC (kidH d S q.toNat (Mk.mk c n)).fst)]
 (AV.sv (SV.one (AC.ref 2)))) .q))) (by
  dsimp only [teasy, P_c_dKids, nthW, lc_dKidsLa]
  with_reducible repeat' (first | apply And.intro | exact zR | exact ih | (intro; skip))
  all_goals (try simp only [std, inj] at *)
  all_goals with_reducible repeat' apply And.intro
  all_goals (try (first | with_reducible apply ih | (simp only [← List.map_append]; first | with_reducible apply ih)))
  all_goals first
    | exact True.intro | omega
    | (rw [kidH_zero]; done) | (rw [kidH_zero]; rfl) | rfl)
def lc_dCor_sLa (d : Int) (c : Cr) (n : Int) (S : List Int) : Lp (Int) := .mk 183 2 (fun x => [(0, SV.one (AC.ptr 0 0)), (6, SV.one (AC.ptr 2 0)), (7, li (d - 1)), (8, SV.one
 (AC.ref 3)), (9, SV.one (AC.ref 4)), (10, hs x 0)]) (fun x => [Ob.box [AC.ptr 1 0, ha x 1], ho x 2, Ob.box [vI 0, vI 0, AC.val (Cell.lit (Value.slice none 0 0)), vI 0, vI 0, vS
 (ByteArray.mk #[]), AC.val (Cell.lit (Value.slice none 0 0)), AC.val (Cell.lit (Value.slice none 0 0))], Ob.arr true 1 (List.map intC S), ho x 3]) (fun k => [.s (li k), .a (vI (n
 + (beX (beC c 12) 3 - k))), .o (crO (beC (beC c 12) 3)), .o (Ob.arr true 1 (List.map intC (frs n (beX (beC c 12) 3 - k).toNat)))]) (fun k => 0 ≤ k ∧ k ≤ beX (beC c 12) 3 ∧ beX
 (beC c 12) (3 : Int) ≤ 2 ∧ 0 ≤ n ∧ n ≤ 10000) (fun k => k.toNat) [.mk True (.exit 1) (fun x => [(0, SV.one (AC.ptr 0 0)), (6, SV.one (AC.ptr 2 0)), (7, li (d - 1)), (8, SV.one
 (AC.ref 3)), (9, SV.one (AC.ref 4))]) (fun x => [Ob.box [AC.ptr 1 0, ha x 0], ho x 1, Ob.box [vI 0, vI 0, AC.val (Cell.lit (Value.slice none 0 0)), vI 0, vI 0, vS (ByteArray.mk
 #[]), AC.val (Cell.lit (Value.slice none 0 0)), AC.val (Cell.lit (Value.slice none 0 0))], Ob.arr true 1 (List.map intC S), ho x 2]) [.a (vI (n + beX (beC c 12) 3)), .o (crO (beC
 (beC c 12) 3)), .o (Ob.arr true 1 (List.map intC (frs n (beX (beC c 12) 3).toNat)))]]
theorem Sc_dCor_sLa (d : Int) (c : Cr) (n : Int) (S : List Int) (h : okK c ∧ 0 ≤ d ∧ d ≤ 4 ∧ (↑S.length : Int) + 3 * d ≤ 100 ∧ 0 ≤ n ∧ n + 1000 * d ≤ 10000) (ih : ∀ (e : Int), 0 ≤
 e ∧ e < d → ∀ (c : Cr) (n : Int) (S : List Int), okK c ∧ 0 ≤ e ∧ e ≤ 4 ∧ (↑S.length : Int) + 3 * e ≤ 100 ∧ 0 ≤ n ∧ n + 1000 * e ≤ 10000 → OK (P_c_dCor e c n S)) : Lp.Sem Try.prog
 (loopAt Try.f43 0) (lc_dCor_sLa d c n S) := lpOK (fun k => .i (0 < k) (.d [.ptr] (P_c_dFre (beC (beC c 12) 3) (n + (beX (beC c 12) 3 - k))) (.p (((List.map intC (frs n (beX (beC c
 12) 3 - k).toNat)).length + 1) * 8 ≤ 140737488355328) (.r (k - 1) (.g [0, 1, 2, 3, 6] (k - 1) [.s (li (k - 1)), .a (vI (Mk.mk (beC (beC c 12) 3) (n + (beX (beC c 12) 3 - k) +
 1)).n), .o (Ob.box [vL (List.map byteC (Mk.mk (beC (beC c 12) 3) (n + (beX (beC c 12) 3 - k) + 1)).c.b), vI (↑(Mk.mk (beC (beC c 12) 3) (n + (beX (beC c 12) 3 - k) + 1)).c.i :
 Int), vI (Mk.mk (beC (beC c 12) 3) (n + (beX (beC c 12) 3 - k) + 1)).c.h]), .o (Ob.arr true 1 (List.map intC (frs n (beX (beC c 12) 3 - k).toNat) ++ [[cI (n + (beX (beC c 12) 3 -
 k) + 1)]]))])))) (.o 0 [0, 1, 2, 3, 4] [.a (vI (n + (beX (beC c 12) 3 - k))), .o (Ob.box [vL (List.map byteC (beC (beC c 12) 3).b), vI (↑(beC (beC c 12) 3).i : Int), vI (beC (beC
 c 12) 3).h]), .o (Ob.arr true 1 (List.map intC (frs n (beX (beC c 12) 3 - k).toNat)))])) (by
  intro k h; try dsimp only [teasy, nthW, lc_dCor_sLa] at h ⊢
  have hb := beX_le (beC c 12) (n := 3) (by decide)
  with_reducible repeat' (first | apply And.intro | exact zR | exact ih | (intro; skip) | apply c_dBelow | apply c_dFre | apply c_dLeaf | apply c_dKids | apply c_sFlat | apply c_l2Ints)
  all_goals (try simp only [std, inj] at *)
  all_goals with_reducible repeat' apply And.intro
  all_goals (try (first | with_reducible apply c_dBelow | with_reducible apply c_dFre | with_reducible apply c_dLeaf | with_reducible apply c_dKids | with_reducible apply c_sFlat | with_reducible apply c_l2Ints | with_reducible apply ih | (simp only [← List.map_append]; first | with_reducible apply c_dBelow | with_reducible apply c_dFre | with_reducible apply c_dLeaf | with_reducible apply c_dKids | with_reducible apply c_sFlat | with_reducible apply c_l2Ints | with_reducible apply ih)))
  all_goals first
    | exact True.intro | with_reducible rfl | omega | (rw [frs_len]; omega)
    | exact frs_step n _ k (by omega) (by omega)
    | (have e : k = 0 := by omega
       rw [e, Int.sub_zero])
    | rfl)
theorem c_dCor_s (d : Int) (c : Cr) (n : Int) (S : List Int) (h : okK c ∧ 0 ≤ d ∧ d ≤ 4 ∧ S.length + 3 * d ≤ 100 ∧ 0 ≤ n ∧ n + 1000 * d ≤ 10000) (ih : ∀ (e : Int), 0 ≤ e ∧ e < d →
 ∀ (c : Cr) (n : Int) (S : List Int) (h : okK c ∧ 0 ≤ e ∧ e ≤ 4 ∧ S.length + 3 * e ≤ 100 ∧ 0 ≤ n ∧ n + 1000 * e ≤ 10000), P_c_dCor e c n S)  : P_c_dCor d c n S := fnOK Try.call43
 Try.func43 (let v1 := (Int.toNat 1); let v2 := (S ++ [n + 1]); let v3 := [SV.one (AC.ptr 0 0), li (d - 1), ll (List.map intC S ++ [[cI (n + 1)]]), li 1]; let v8 := (ByteArray.mk
 #[]); let v4 := (AV.sv (SV.agg [vI 6, vI 0, AC.ref 2, vI 0, vI 0, vS v8, AC.ref 3, AC.ref 4])); let v5 := (↑(List.map intC S).length : Int); let v6 := (((List.map intC S).length +
 1) * 8 ≤ 140737488355328); let v7 := (AV.sv (SV.one (AC.ref 2))); let v9 := [(1, [4, 9]), (5, [0, 1]), (6, [11, 14]), (8, [2])]; let v10 := [(9, [1]), (11, [0, 1]), (12, [5, 16]),
 (14, [2])]; let v11 := (AV.sv (SV.agg [vI 5, vI 0, AC.ref 2, vI 0, vI 0, vS v8, AC.ref 3, AC.ref 4])); .i (d ≤ 0) (.d [.ptr, .rd] (P_c_dLeaf c n S) (.f [5, 6, 7] [Ob.box [AC.ptr 1
 0, vI (leafH (Mk.mk c n) S).snd.n], Ob.box [vL (List.map byteC (leafH (Mk.mk c n) S).snd.c.b), vI (↑(leafH (Mk.mk c n) S).snd.c.i : Int), vI (leafH (Mk.mk c n) S).snd.c.h], Ob.arr
 true 1 (List.map intC (leafH (Mk.mk c n) S).fst.params), Ob.arr true 4 (List.map datumC (leafH (Mk.mk c n) S).fst.datum.items), Ob.arr true 8 (List.map coreC (leafH (Mk.mk c n)
 S).fst.kids)] (AV.sv (SV.agg [vI (leafH (Mk.mk c n) S).fst.kind, vI (leafH (Mk.mk c n) S).fst.number, AC.ref 2, vI (leafH (Mk.mk c n) S).fst.datum.kind, vI (leafH (Mk.mk c n)
 S).fst.datum.number, vS (leafH (Mk.mk c n) S).fst.datum.text, AC.ref 3, AC.ref 4])))) (.r (d - 1) (.d [.rd] (P_c_l2Ints S) (.d [.ptr, .rd] (P_c_dBelow c 12) (.i (beX c (12 : Int)
 = 0) (.y true (.w (.bool false) (.d [.ptr, .rd] (P_c_dBelow (beC c 12) 3) (.l (lc_dCor_sLa d c n S) (Sc_dCor_sLa d c n S h ih) [0, 1, 2, 3, 4] [.s (li (beX (beC c 12) 3)), .a (vI
 n), .o (Ob.box [vL (List.map byteC (beC (beC c 12) 3).b), vI (↑(beC (beC c 12) 3).i : Int), vI (beC (beC c 12) 3).h]), .o (Ob.arr true 1 [])] (beX (beC c 12) 3) (.t (.w (.bool
 true) (.p (∀ (e : List Cell), e ∈ List.map intC (frs n (beX (beC c 12) 3).toNat) → ∀ (c : Cell), c ∈ e → ∃ v, c = Cell.lit v) (.p (∀ (e : List Cell), e ∈ List.map intC (frs n (beX
 (beC c 12) 3).toNat) → e.length = 1) (.p (((List.map intC S).length + (List.map intC (frs n (beX (beC c 12) 3).toNat)).length) * 8 ≤ 140737488355328) (.w (.ghost (.lock 5)) (.u
 [.ptr, .rd, .rd, .rd] (P_c_dKids (d - 1) 1 (beC (beC c 12) 3) (n + beX (beC c 12) 3) (S ++ frs n (beX (beC c 12) 3).toNat)) (.p (CallOK Try.prog 55 [Ob.box [AC.ptr 1 0, vI (n +
 beX (beC c 12) 3)], Ob.box [vL (List.map byteC (beC (beC c 12) 3).b), vI (↑(beC (beC c 12) 3).i : Int), vI (beC (beC c 12) 3).h]] [SV.one (AC.ptr 0 0), li (d - 1), ll (List.map
 intC S ++ List.map intC (frs n (beX (beC c 12) 3).toNat)), li 1] [Ob.box [AC.ptr 1 0, vI (kidH (d - 1) (S ++ frs n (beX (beC c 12) 3).toNat) v1 (Mk.mk (beC (beC c 12) 3) (n + beX
 (beC c 12) 3))).snd.n], Ob.box [vL (List.map byteC (kidH (d - 1) (S ++ frs n (beX (beC c 12) 3).toNat) v1 (Mk.mk (beC (beC c 12) 3) (n + beX (beC c 12) 3))).snd.c.b), vI (↑(kidH
 (d - 1) (S ++ frs n (beX (beC c 12) 3).toNat) v1 (Mk.mk (beC (beC c 12) 3) (n + beX (beC c 12) 3))).snd.c.i : Int), vI (kidH (d - 1) (S ++ frs n (beX (beC c 12) 3).toNat) v1
 (Mk.mk (beC (beC c 12) 3) (n + beX (beC c 12) 3))).snd.c.h], Ob.arr true 8 (List.map coreC (kidH (d - 1) (S ++ frs n (beX (beC c 12) 3).toNat) 1 (Mk.mk (beC (beC c 12) 3) (n + beX
 (beC c 12) 3))).fst)] v7) (.w (.ghost (.nilbox 2 6 true 4)) (.f [4, 9, 8] [Ob.box [AC.ptr 1 0, vI (kidH (d - 1) (S ++ frs n (beX (beC c 12) 3).toNat) v1 (Mk.mk (beC (beC c 12) 3)
 (n + beX (beC c 12) 3))).snd.n], Ob.box [vL (List.map byteC (kidH (d - 1) (S ++ frs n (beX (beC c 12) 3).toNat) v1 (Mk.mk (beC (beC c 12) 3) (n + beX (beC c 12) 3))).snd.c.b), vI
 (↑(kidH (d - 1) (S ++ frs n (beX (beC c 12) 3).toNat) v1 (Mk.mk (beC (beC c 12) 3) (n + beX (beC c 12) 3))).snd.c.i : Int), vI (kidH (d - 1) (S ++ frs n (beX (beC c 12) 3).toNat)
 v1 (Mk.mk (beC (beC c 12) 3) (n + beX (beC c 12) 3))).snd.c.h], Ob.arr true 1 (List.map intC (frs n (beX (beC c 12) 3).toNat)), Ob.arr true 4 [], Ob.arr true 8 (List.map coreC
 (kidH (d - 1) (S ++ frs n (beX (beC c 12) 3).toNat) 1 (Mk.mk (beC (beC c 12) 3) (n + beX (beC c 12) 3))).fst)] v11))))))))) .q))))) (.i (beX c (12 : Int) = 1) (.w (.bool false)
 (.d [.ptr, .rd] (P_c_dBelow (beC c 12) 3) (.l (lc_dCor_sLa d c n S) (Sc_dCor_sLa d c n S h ih) [0, 1, 2, 3, 4] [.s (li (beX (beC c 12) 3)), .a (vI n), .o (Ob.box [vL (List.map
 byteC (beC (beC c 12) 3).b), vI (↑(beC (beC c 12) 3).i : Int), vI (beC (beC c 12) 3).h]), .o (Ob.arr true 1 [])] (beX (beC c 12) 3) (.t (.w (.bool true) (.p (∀ (e : List Cell), e
 ∈ List.map intC (frs n (beX (beC c 12) 3).toNat) → ∀ (c : Cell), c ∈ e → ∃ v, c = Cell.lit v) (.p (∀ (e : List Cell), e ∈ List.map intC (frs n (beX (beC c 12) 3).toNat) → e.length
 = 1) (.p (((List.map intC S).length + (List.map intC (frs n (beX (beC c 12) 3).toNat)).length) * 8 ≤ 140737488355328) (.w (.ghost (.lock 5)) (.u [.ptr, .rd, .rd, .rd] (P_c_dKids
 (d - 1) 1 (beC (beC c 12) 3) (n + beX (beC c 12) 3) (S ++ frs n (beX (beC c 12) 3).toNat)) (.p (CallOK Try.prog 55 [Ob.box [AC.ptr 1 0, vI (n + beX (beC c 12) 3)], Ob.box [vL
 (List.map byteC (beC (beC c 12) 3).b), vI (↑(beC (beC c 12) 3).i : Int), vI (beC (beC c 12) 3).h]] [SV.one (AC.ptr 0 0), li (d - 1), ll (List.map intC S ++ List.map intC (frs n
 (beX (beC c 12) 3).toNat)), li 1] [Ob.box [AC.ptr 1 0, vI (kidH (d - 1) (S ++ frs n (beX (beC c 12) 3).toNat) v1 (Mk.mk (beC (beC c 12) 3) (n + beX (beC c 12) 3))).snd.n], Ob.box
 [vL (List.map byteC (kidH (d - 1) (S ++ frs n (beX (beC c 12) 3).toNat) v1 (Mk.mk (beC (beC c 12) 3) (n + beX (beC c 12) 3))).snd.c.b), vI (↑(kidH (d - 1) (S ++ frs n (beX (beC c
 12) 3).toNat) v1 (Mk.mk (beC (beC c 12) 3) (n + beX (beC c 12) 3))).snd.c.i : Int), vI (kidH (d - 1) (S ++ frs n (beX (beC c 12) 3).toNat) v1 (Mk.mk (beC (beC c 12) 3) (n + beX
 (beC c 12) 3))).snd.c.h], Ob.arr true 8 (List.map coreC (kidH (d - 1) (S ++ frs n (beX (beC c 12) 3).toNat) 1 (Mk.mk (beC (beC c 12) 3) (n + beX (beC c 12) 3))).fst)] v7) (.w
 (.ghost (.nilbox 2 6 true 4)) (.f [4, 9, 8] [Ob.box [AC.ptr 1 0, vI (kidH (d - 1) (S ++ frs n (beX (beC c 12) 3).toNat) v1 (Mk.mk (beC (beC c 12) 3) (n + beX (beC c 12)
 3))).snd.n], Ob.box [vL (List.map byteC (kidH (d - 1) (S ++ frs n (beX (beC c 12) 3).toNat) v1 (Mk.mk (beC (beC c 12) 3) (n + beX (beC c 12) 3))).snd.c.b), vI (↑(kidH (d - 1) (S
 ++ frs n (beX (beC c 12) 3).toNat) v1 (Mk.mk (beC (beC c 12) 3) (n + beX (beC c 12) 3))).snd.c.i : Int), vI (kidH (d - 1) (S ++ frs n (beX (beC c 12) 3).toNat) v1 (Mk.mk (beC (beC
 c 12) 3) (n + beX (beC c 12) 3))).snd.c.h], Ob.arr true 1 (List.map intC (frs n (beX (beC c 12) 3).toNat)), Ob.arr true 4 [], Ob.arr true 8 (List.map coreC (kidH (d - 1) (S ++ frs
 n (beX (beC c 12) 3).toNat) 1 (Mk.mk (beC (beC c 12) 3) (n + beX (beC c 12) 3))).fst)] v11))))))))) .q)))) (.i (beX c (12 : Int) = 2) (.y true (.d [.ptr] (P_c_dFre (beC c 12) n)
 (.p v6 (.w (.ghost (.lock 6)) (.u [.ptr, .rd, .rd, .rd] (P_c_dKids (d - 1) 1 (Mk.mk (beC c 12) (n + 1)).c (Mk.mk (beC c 12) (n + 1)).n v2) (.p (CallOK Try.prog 55 [Ob.box [AC.ptr
 1 0, vI (Mk.mk (beC c 12) (n + 1)).n], Ob.box [vL (List.map byteC (Mk.mk (beC c 12) (n + 1)).c.b), vI (↑(Mk.mk (beC c 12) (n + 1)).c.i : Int), vI (Mk.mk (beC c 12) (n + 1)).c.h]]
 v3 [Ob.box [AC.ptr 1 0, vI (kidH (d - 1) v2 v1 (Mk.mk (Mk.mk (beC c 12) (n + 1)).c (Mk.mk (beC c 12) (n + 1)).n)).snd.n], Ob.box [vL (List.map byteC (kidH (d - 1) v2 v1 (Mk.mk
 (Mk.mk (beC c 12) (n + 1)).c (Mk.mk (beC c 12) (n + 1)).n)).snd.c.b), vI (↑(kidH (d - 1) v2 v1 (Mk.mk (Mk.mk (beC c 12) (n + 1)).c (Mk.mk (beC c 12) (n + 1)).n)).snd.c.i : Int),
 vI (kidH (d - 1) v2 v1 (Mk.mk (Mk.mk (beC c 12) (n + 1)).c (Mk.mk (beC c 12) (n + 1)).n)).snd.c.h], Ob.arr true 8 (List.map coreC (kidH (d - 1) v2 1 (Mk.mk (Mk.mk (beC c 12) (n +
 1)).c (Mk.mk (beC c 12) (n + 1)).n)).fst)] v7) (.w (.draw v9) (.d [.ptr, .rd, .rd, .rd] (P_c_dKids (d - 1) 1 (kidH (d - 1) v2 v1 (Mk.mk (Mk.mk (beC c 12) (n + 1)).c (Mk.mk (beC c
 12) (n + 1)).n)).snd.c (kidH (d - 1) v2 v1 (Mk.mk (Mk.mk (beC c 12) (n + 1)).c (Mk.mk (beC c 12) (n + 1)).n)).snd.n S) (.p ((1 + (List.map coreC (kidH (d - 1) S 1 (Mk.mk (kidH (d
 - 1) v2 1 (Mk.mk (Mk.mk (beC c 12) (n + 1)).c (Mk.mk (beC c 12) (n + 1)).n)).snd.c (kidH (d - 1) v2 v1 (Mk.mk (Mk.mk (beC c 12) (n + 1)).c (Mk.mk (beC c 12) (n +
 1)).n)).snd.n)).fst).length) * 120 ≤ 140737488355328) (.w (.ghost (.nilbox 2 2 true 1)) (.w (.ghost (.nilbox 2 6 true 4)) (.f [21, 22, 20] [Ob.box [AC.ptr 1 0, vI (kidH (d - 1) S
 v1 (Mk.mk (kidH (d - 1) v2 v1 (Mk.mk (Mk.mk (beC c 12) (n + 1)).c (Mk.mk (beC c 12) (n + 1)).n)).snd.c (kidH (d - 1) v2 v1 (Mk.mk (Mk.mk (beC c 12) (n + 1)).c (Mk.mk (beC c 12) (n
 + 1)).n)).snd.n)).snd.n], Ob.box [vL (List.map byteC (kidH (d - 1) S v1 (Mk.mk (kidH (d - 1) v2 v1 (Mk.mk (Mk.mk (beC c 12) (n + 1)).c (Mk.mk (beC c 12) (n + 1)).n)).snd.c (kidH
 (d - 1) v2 v1 (Mk.mk (Mk.mk (beC c 12) (n + 1)).c (Mk.mk (beC c 12) (n + 1)).n)).snd.n)).snd.c.b), vI (↑(kidH (d - 1) S v1 (Mk.mk (kidH (d - 1) v2 v1 (Mk.mk (Mk.mk (beC c 12) (n +
 1)).c (Mk.mk (beC c 12) (n + 1)).n)).snd.c (kidH (d - 1) v2 v1 (Mk.mk (Mk.mk (beC c 12) (n + 1)).c (Mk.mk (beC c 12) (n + 1)).n)).snd.n)).snd.c.i : Int), vI (kidH (d - 1) S v1
 (Mk.mk (kidH (d - 1) v2 v1 (Mk.mk (Mk.mk (beC c 12) (n + 1)).c (Mk.mk (beC c 12) (n + 1)).n)).snd.c (kidH (d - 1) v2 v1 (Mk.mk (Mk.mk (beC c 12) (n + 1)).c (Mk.mk (beC c 12) (n +
 1)).n)).snd.n)).snd.c.h], Ob.arr true 1 [], Ob.arr true 4 [], Ob.arr true 8 ([cI 5, cI 0, Cell.list [[cI (n + 1)]], cI 0, cI 0, cS v8, Cell.list [], Cell.list (List.map coreC
 (kidH (d - 1) v2 1 (Mk.mk (Mk.mk (beC c 12) (n + 1)).c (Mk.mk (beC c 12) (n + 1)).n)).fst)] :: List.map coreC (kidH (d - 1) S 1 (Mk.mk (kidH (d - 1) v2 1 (Mk.mk (Mk.mk (beC c 12)
 (n + 1)).c (Mk.mk (beC c 12) (n + 1)).n)).snd.c (kidH (d - 1) v2 v1 (Mk.mk (Mk.mk (beC c 12) (n + 1)).c (Mk.mk (beC c 12) (n + 1)).n)).snd.n)).fst)] v4)))))))))))) (.i (beX c (12
 : Int) = 3) (.d [.ptr] (P_c_dFre (beC c 12) n) (.p v6 (.w (.ghost (.lock 6)) (.u [.ptr, .rd, .rd, .rd] (P_c_dKids (d - 1) 1 (Mk.mk (beC c 12) (n + 1)).c (Mk.mk (beC c 12) (n +
 1)).n v2) (.p (CallOK Try.prog 55 [Ob.box [AC.ptr 1 0, vI (Mk.mk (beC c 12) (n + 1)).n], Ob.box [vL (List.map byteC (Mk.mk (beC c 12) (n + 1)).c.b), vI (↑(Mk.mk (beC c 12) (n +
 1)).c.i : Int), vI (Mk.mk (beC c 12) (n + 1)).c.h]] v3 [Ob.box [AC.ptr 1 0, vI (kidH (d - 1) v2 v1 (Mk.mk (Mk.mk (beC c 12) (n + 1)).c (Mk.mk (beC c 12) (n + 1)).n)).snd.n],
 Ob.box [vL (List.map byteC (kidH (d - 1) v2 v1 (Mk.mk (Mk.mk (beC c 12) (n + 1)).c (Mk.mk (beC c 12) (n + 1)).n)).snd.c.b), vI (↑(kidH (d - 1) v2 v1 (Mk.mk (Mk.mk (beC c 12) (n +
 1)).c (Mk.mk (beC c 12) (n + 1)).n)).snd.c.i : Int), vI (kidH (d - 1) v2 v1 (Mk.mk (Mk.mk (beC c 12) (n + 1)).c (Mk.mk (beC c 12) (n + 1)).n)).snd.c.h], Ob.arr true 8 (List.map
 coreC (kidH (d - 1) v2 1 (Mk.mk (Mk.mk (beC c 12) (n + 1)).c (Mk.mk (beC c 12) (n + 1)).n)).fst)] v7) (.w (.draw v9) (.d [.ptr, .rd, .rd, .rd] (P_c_dKids (d - 1) 1 (kidH (d - 1)
 v2 v1 (Mk.mk (Mk.mk (beC c 12) (n + 1)).c (Mk.mk (beC c 12) (n + 1)).n)).snd.c (kidH (d - 1) v2 v1 (Mk.mk (Mk.mk (beC c 12) (n + 1)).c (Mk.mk (beC c 12) (n + 1)).n)).snd.n S) (.p
 ((1 + (List.map coreC (kidH (d - 1) S 1 (Mk.mk (kidH (d - 1) v2 1 (Mk.mk (Mk.mk (beC c 12) (n + 1)).c (Mk.mk (beC c 12) (n + 1)).n)).snd.c (kidH (d - 1) v2 v1 (Mk.mk (Mk.mk (beC c
 12) (n + 1)).c (Mk.mk (beC c 12) (n + 1)).n)).snd.n)).fst).length) * 120 ≤ 140737488355328) (.w (.ghost (.nilbox 2 2 true 1)) (.w (.ghost (.nilbox 2 6 true 4)) (.f [21, 22, 20]
 [Ob.box [AC.ptr 1 0, vI (kidH (d - 1) S v1 (Mk.mk (kidH (d - 1) v2 v1 (Mk.mk (Mk.mk (beC c 12) (n + 1)).c (Mk.mk (beC c 12) (n + 1)).n)).snd.c (kidH (d - 1) v2 v1 (Mk.mk (Mk.mk
 (beC c 12) (n + 1)).c (Mk.mk (beC c 12) (n + 1)).n)).snd.n)).snd.n], Ob.box [vL (List.map byteC (kidH (d - 1) S v1 (Mk.mk (kidH (d - 1) v2 v1 (Mk.mk (Mk.mk (beC c 12) (n + 1)).c
 (Mk.mk (beC c 12) (n + 1)).n)).snd.c (kidH (d - 1) v2 v1 (Mk.mk (Mk.mk (beC c 12) (n + 1)).c (Mk.mk (beC c 12) (n + 1)).n)).snd.n)).snd.c.b), vI (↑(kidH (d - 1) S v1 (Mk.mk (kidH
 (d - 1) v2 v1 (Mk.mk (Mk.mk (beC c 12) (n + 1)).c (Mk.mk (beC c 12) (n + 1)).n)).snd.c (kidH (d - 1) v2 v1 (Mk.mk (Mk.mk (beC c 12) (n + 1)).c (Mk.mk (beC c 12) (n +
 1)).n)).snd.n)).snd.c.i : Int), vI (kidH (d - 1) S v1 (Mk.mk (kidH (d - 1) v2 v1 (Mk.mk (Mk.mk (beC c 12) (n + 1)).c (Mk.mk (beC c 12) (n + 1)).n)).snd.c (kidH (d - 1) v2 v1
 (Mk.mk (Mk.mk (beC c 12) (n + 1)).c (Mk.mk (beC c 12) (n + 1)).n)).snd.n)).snd.c.h], Ob.arr true 1 [], Ob.arr true 4 [], Ob.arr true 8 ([cI 5, cI 0, Cell.list [[cI (n + 1)]], cI
 0, cI 0, cS v8, Cell.list [], Cell.list (List.map coreC (kidH (d - 1) v2 1 (Mk.mk (Mk.mk (beC c 12) (n + 1)).c (Mk.mk (beC c 12) (n + 1)).n)).fst)] :: List.map coreC (kidH (d - 1)
 S 1 (Mk.mk (kidH (d - 1) v2 1 (Mk.mk (Mk.mk (beC c 12) (n + 1)).c (Mk.mk (beC c 12) (n + 1)).n)).snd.c (kidH (d - 1) v2 v1 (Mk.mk (Mk.mk (beC c 12) (n + 1)).c (Mk.mk (beC c 12) (n
 + 1)).n)).snd.n)).fst)] v4))))))))))) (.i (beX c (12 : Int) = 4) (.y true (.d [.ptr, .rd] (P_c_dBelow (beC c 12) 14) (.w (.draw v10) (.d [.ptr, .rd] (P_c_dBelow (beC (beC c 12)
 14) 2) (.r (1 + beX (beC (beC c 12) 14) 2) (.d [.ptr, .rd, .rd, .rd] (P_c_dKids (d - 1) (1 + beX (beC (beC c 12) 14) 2) (beC (beC (beC c 12) 14) 2) n S) (.p ((1 + (List.map coreC
 (kidH (d - 1) S (1 + beX (beC (beC c 12) 14) 2).toNat (Mk.mk (beC (beC (beC c 12) 14) 2) n)).fst).length) * 120 ≤ 140737488355328) (.w (.ghost (.nilbox 2 2 true 1)) (.w (.ghost
 (.nilbox 2 6 true 4)) (.f [23, 24, 22] [Ob.box [AC.ptr 1 0, vI (kidH (d - 1) S (1 + beX (beC (beC c 12) 14) 2).toNat (Mk.mk (beC (beC (beC c 12) 14) 2) n)).snd.n], Ob.box [vL
 (List.map byteC (kidH (d - 1) S (1 + beX (beC (beC c 12) 14) 2).toNat (Mk.mk (beC (beC (beC c 12) 14) 2) n)).snd.c.b), vI (↑(kidH (d - 1) S (1 + beX (beC (beC c 12) 14) 2).toNat
 (Mk.mk (beC (beC (beC c 12) 14) 2) n)).snd.c.i : Int), vI (kidH (d - 1) S (1 + beX (beC (beC c 12) 14) 2).toNat (Mk.mk (beC (beC (beC c 12) 14) 2) n)).snd.c.h], Ob.arr true 1 [],
 Ob.arr true 4 [], Ob.arr true 8 ([cI 3, cI (beX (beC c 12) 14), Cell.list [], cI 0, cI 0, cS v8, Cell.list [], Cell.list []] :: List.map coreC (kidH (d - 1) S (1 + beX (beC (beC c
 12) 14) 2).toNat (Mk.mk (beC (beC (beC c 12) 14) 2) n)).fst)] v4)))))))))) (.i (beX c (12 : Int) = 5) (.d [.ptr, .rd] (P_c_dBelow (beC c 12) 14) (.w (.draw v10) (.d [.ptr, .rd]
 (P_c_dBelow (beC (beC c 12) 14) 2) (.r (1 + beX (beC (beC c 12) 14) 2) (.d [.ptr, .rd, .rd, .rd] (P_c_dKids (d - 1) (1 + beX (beC (beC c 12) 14) 2) (beC (beC (beC c 12) 14) 2) n
 S) (.p ((1 + (List.map coreC (kidH (d - 1) S (1 + beX (beC (beC c 12) 14) 2).toNat (Mk.mk (beC (beC (beC c 12) 14) 2) n)).fst).length) * 120 ≤ 140737488355328) (.w (.ghost
 (.nilbox 2 2 true 1)) (.w (.ghost (.nilbox 2 6 true 4)) (.f [23, 24, 22] [Ob.box [AC.ptr 1 0, vI (kidH (d - 1) S (1 + beX (beC (beC c 12) 14) 2).toNat (Mk.mk (beC (beC (beC c 12)
 14) 2) n)).snd.n], Ob.box [vL (List.map byteC (kidH (d - 1) S (1 + beX (beC (beC c 12) 14) 2).toNat (Mk.mk (beC (beC (beC c 12) 14) 2) n)).snd.c.b), vI (↑(kidH (d - 1) S (1 + beX
 (beC (beC c 12) 14) 2).toNat (Mk.mk (beC (beC (beC c 12) 14) 2) n)).snd.c.i : Int), vI (kidH (d - 1) S (1 + beX (beC (beC c 12) 14) 2).toNat (Mk.mk (beC (beC (beC c 12) 14) 2)
 n)).snd.c.h], Ob.arr true 1 [], Ob.arr true 4 [], Ob.arr true 8 ([cI 3, cI (beX (beC c 12) 14), Cell.list [], cI 0, cI 0, cS v8, Cell.list [], Cell.list []] :: List.map coreC
 (kidH (d - 1) S (1 + beX (beC (beC c 12) 14) 2).toNat (Mk.mk (beC (beC (beC c 12) 14) 2) n)).fst)] v4))))))))) (.i (beX c (12 : Int) = 6) (.d [.ptr, .rd, .rd, .rd] (P_c_dKids (d -
 1) 3 (beC c 12) n S) (.w (.ghost (.nilbox 2 2 true 1)) (.w (.ghost (.nilbox 2 6 true 4)) (.f [7, 8, 6] [Ob.box [AC.ptr 1 0, vI (kidH (d - 1) S (Int.toNat 3) (Mk.mk (beC c 12)
 n)).snd.n], Ob.box [vL (List.map byteC (kidH (d - 1) S (Int.toNat 3) (Mk.mk (beC c 12) n)).snd.c.b), vI (↑(kidH (d - 1) S (Int.toNat 3) (Mk.mk (beC c 12) n)).snd.c.i : Int), vI
 (kidH (d - 1) S (Int.toNat 3) (Mk.mk (beC c 12) n)).snd.c.h], Ob.arr true 1 [], Ob.arr true 4 [], Ob.arr true 8 (List.map coreC (kidH (d - 1) S 3 (Mk.mk (beC c 12) n)).fst)]
 (AV.sv (SV.agg [vI 7, vI 0, AC.ref 2, vI 0, vI 0, vS v8, AC.ref 3, AC.ref 4])))))) (.i (beX c (12 : Int) = 7) (.d [.ptr, .rd, .rd, .rd] (P_c_dKids (d - 1) 2 (beC c 12) n S) (.d
 [.own true 8] (P_c_sFlat (kidH (d - 1) S 2 (Mk.mk (beC c 12) n)).fst) (.f [8, 9, 10] [Ob.box [AC.ptr 1 0, vI (kidH (d - 1) S (Int.toNat 2) (Mk.mk (beC c 12) n)).snd.n], Ob.box [vL
 (List.map byteC (kidH (d - 1) S (Int.toNat 2) (Mk.mk (beC c 12) n)).snd.c.b), vI (↑(kidH (d - 1) S (Int.toNat 2) (Mk.mk (beC c 12) n)).snd.c.i : Int), vI (kidH (d - 1) S
 (Int.toNat 2) (Mk.mk (beC c 12) n)).snd.c.h], Ob.arr true 1 (List.map intC (flat1 (kidH (d - 1) S 2 (Mk.mk (beC c 12) n)).fst).params), Ob.arr true 4 (List.map datumC (flat1 (kidH
 (d - 1) S 2 (Mk.mk (beC c 12) n)).fst).datum.items), Ob.arr true 8 (List.map coreC (flat1 (kidH (d - 1) S 2 (Mk.mk (beC c 12) n)).fst).kids)] (AV.sv (SV.agg [vI (flat1 (kidH (d -
 1) S 2 (Mk.mk (beC c 12) n)).fst).kind, vI (flat1 (kidH (d - 1) S 2 (Mk.mk (beC c 12) n)).fst).number, AC.ref 2, vI (flat1 (kidH (d - 1) S 2 (Mk.mk (beC c 12) n)).fst).datum.kind,
 vI (flat1 (kidH (d - 1) S 2 (Mk.mk (beC c 12) n)).fst).datum.number, vS (flat1 (kidH (d - 1) S 2 (Mk.mk (beC c 12) n)).fst).datum.text, AC.ref 3, AC.ref 4]))))) (.i (beX c (12 :
 Int) = 8) (.d [.ptr] (P_c_dFre (beC c 12) n) (.p v6 (.w (.ghost (.lock 5)) (.u [.ptr, .rd, .rd, .rd] (P_c_dKids (d - 1) 1 (Mk.mk (beC c 12) (n + 1)).c (Mk.mk (beC c 12) (n + 1)).n
 v2) (.p (CallOK Try.prog 55 [Ob.box [AC.ptr 1 0, vI (Mk.mk (beC c 12) (n + 1)).n], Ob.box [vL (List.map byteC (Mk.mk (beC c 12) (n + 1)).c.b), vI (↑(Mk.mk (beC c 12) (n + 1)).c.i
 : Int), vI (Mk.mk (beC c 12) (n + 1)).c.h]] v3 [Ob.box [AC.ptr 1 0, vI (kidH (d - 1) v2 v1 (Mk.mk (Mk.mk (beC c 12) (n + 1)).c (Mk.mk (beC c 12) (n + 1)).n)).snd.n], Ob.box [vL
 (List.map byteC (kidH (d - 1) v2 v1 (Mk.mk (Mk.mk (beC c 12) (n + 1)).c (Mk.mk (beC c 12) (n + 1)).n)).snd.c.b), vI (↑(kidH (d - 1) v2 v1 (Mk.mk (Mk.mk (beC c 12) (n + 1)).c
 (Mk.mk (beC c 12) (n + 1)).n)).snd.c.i : Int), vI (kidH (d - 1) v2 v1 (Mk.mk (Mk.mk (beC c 12) (n + 1)).c (Mk.mk (beC c 12) (n + 1)).n)).snd.c.h], Ob.arr true 8 (List.map coreC
 (kidH (d - 1) v2 1 (Mk.mk (Mk.mk (beC c 12) (n + 1)).c (Mk.mk (beC c 12) (n + 1)).n)).fst)] v7) (.w (.draw [(3, [8]), (7, [0, 1]), (8, [11, 14]), (10, [2])]) (.u [.ptr, .rd, .rd,
 .rd] (P_c_dKids (d - 1) 1 (kidH (d - 1) v2 v1 (Mk.mk (Mk.mk (beC c 12) (n + 1)).c (Mk.mk (beC c 12) (n + 1)).n)).snd.c (kidH (d - 1) v2 v1 (Mk.mk (Mk.mk (beC c 12) (n + 1)).c
 (Mk.mk (beC c 12) (n + 1)).n)).snd.n v2) (.p (CallOK Try.prog 55 [Ob.box [AC.ptr 1 0, vI (kidH (d - 1) v2 v1 (Mk.mk (Mk.mk (beC c 12) (n + 1)).c (Mk.mk (beC c 12) (n +
 1)).n)).snd.n], Ob.box [vL (List.map byteC (kidH (d - 1) v2 v1 (Mk.mk (Mk.mk (beC c 12) (n + 1)).c (Mk.mk (beC c 12) (n + 1)).n)).snd.c.b), vI (↑(kidH (d - 1) v2 v1 (Mk.mk (Mk.mk
 (beC c 12) (n + 1)).c (Mk.mk (beC c 12) (n + 1)).n)).snd.c.i : Int), vI (kidH (d - 1) v2 v1 (Mk.mk (Mk.mk (beC c 12) (n + 1)).c (Mk.mk (beC c 12) (n + 1)).n)).snd.c.h]] v3 [Ob.box
 [AC.ptr 1 0, vI (kidH (d - 1) v2 v1 (Mk.mk (kidH (d - 1) v2 v1 (Mk.mk (Mk.mk (beC c 12) (n + 1)).c (Mk.mk (beC c 12) (n + 1)).n)).snd.c (kidH (d - 1) v2 v1 (Mk.mk (Mk.mk (beC c
 12) (n + 1)).c (Mk.mk (beC c 12) (n + 1)).n)).snd.n)).snd.n], Ob.box [vL (List.map byteC (kidH (d - 1) v2 v1 (Mk.mk (kidH (d - 1) v2 v1 (Mk.mk (Mk.mk (beC c 12) (n + 1)).c (Mk.mk
 (beC c 12) (n + 1)).n)).snd.c (kidH (d - 1) v2 v1 (Mk.mk (Mk.mk (beC c 12) (n + 1)).c (Mk.mk (beC c 12) (n + 1)).n)).snd.n)).snd.c.b), vI (↑(kidH (d - 1) v2 v1 (Mk.mk (kidH (d -
 1) v2 v1 (Mk.mk (Mk.mk (beC c 12) (n + 1)).c (Mk.mk (beC c 12) (n + 1)).n)).snd.c (kidH (d - 1) v2 v1 (Mk.mk (Mk.mk (beC c 12) (n + 1)).c (Mk.mk (beC c 12) (n +
 1)).n)).snd.n)).snd.c.i : Int), vI (kidH (d - 1) v2 v1 (Mk.mk (kidH (d - 1) v2 v1 (Mk.mk (Mk.mk (beC c 12) (n + 1)).c (Mk.mk (beC c 12) (n + 1)).n)).snd.c (kidH (d - 1) v2 v1
 (Mk.mk (Mk.mk (beC c 12) (n + 1)).c (Mk.mk (beC c 12) (n + 1)).n)).snd.n)).snd.c.h], Ob.arr true 8 (List.map coreC (kidH (d - 1) v2 1 (Mk.mk (kidH (d - 1) v2 1 (Mk.mk (Mk.mk (beC
 c 12) (n + 1)).c (Mk.mk (beC c 12) (n + 1)).n)).snd.c (kidH (d - 1) v2 v1 (Mk.mk (Mk.mk (beC c 12) (n + 1)).c (Mk.mk (beC c 12) (n + 1)).n)).snd.n)).fst)] v7) (.p ((1 + (List.map
 coreC (kidH (d - 1) v2 1 (Mk.mk (kidH (d - 1) v2 1 (Mk.mk (Mk.mk (beC c 12) (n + 1)).c (Mk.mk (beC c 12) (n + 1)).n)).snd.c (kidH (d - 1) v2 v1 (Mk.mk (Mk.mk (beC c 12) (n + 1)).c
 (Mk.mk (beC c 12) (n + 1)).n)).snd.n)).fst).length) * 120 ≤ 140737488355328) (.w (.ghost (.nilbox 2 6 true 4)) (.f [10, 21, 20] [Ob.box [AC.ptr 1 0, vI (kidH (d - 1) v2 v1 (Mk.mk
 (kidH (d - 1) v2 v1 (Mk.mk (Mk.mk (beC c 12) (n + 1)).c (Mk.mk (beC c 12) (n + 1)).n)).snd.c (kidH (d - 1) v2 v1 (Mk.mk (Mk.mk (beC c 12) (n + 1)).c (Mk.mk (beC c 12) (n +
 1)).n)).snd.n)).snd.n], Ob.box [vL (List.map byteC (kidH (d - 1) v2 v1 (Mk.mk (kidH (d - 1) v2 v1 (Mk.mk (Mk.mk (beC c 12) (n + 1)).c (Mk.mk (beC c 12) (n + 1)).n)).snd.c (kidH (d
 - 1) v2 v1 (Mk.mk (Mk.mk (beC c 12) (n + 1)).c (Mk.mk (beC c 12) (n + 1)).n)).snd.n)).snd.c.b), vI (↑(kidH (d - 1) v2 v1 (Mk.mk (kidH (d - 1) v2 v1 (Mk.mk (Mk.mk (beC c 12) (n +
 1)).c (Mk.mk (beC c 12) (n + 1)).n)).snd.c (kidH (d - 1) v2 v1 (Mk.mk (Mk.mk (beC c 12) (n + 1)).c (Mk.mk (beC c 12) (n + 1)).n)).snd.n)).snd.c.i : Int), vI (kidH (d - 1) v2 v1
 (Mk.mk (kidH (d - 1) v2 v1 (Mk.mk (Mk.mk (beC c 12) (n + 1)).c (Mk.mk (beC c 12) (n + 1)).n)).snd.c (kidH (d - 1) v2 v1 (Mk.mk (Mk.mk (beC c 12) (n + 1)).c (Mk.mk (beC c 12) (n +
 1)).n)).snd.n)).snd.c.h], Ob.arr true 1 [[cI (n + 1)]], Ob.arr true 4 [], Ob.arr true 8 ([cI 4, cI (n + 1), Cell.list [], cI 0, cI 0, cS v8, Cell.list [], Cell.list (List.map
 coreC (kidH (d - 1) v2 1 (Mk.mk (Mk.mk (beC c 12) (n + 1)).c (Mk.mk (beC c 12) (n + 1)).n)).fst)] :: List.map coreC (kidH (d - 1) v2 1 (Mk.mk (kidH (d - 1) v2 1 (Mk.mk (Mk.mk (beC
 c 12) (n + 1)).c (Mk.mk (beC c 12) (n + 1)).n)).snd.c (kidH (d - 1) v2 v1 (Mk.mk (Mk.mk (beC c 12) (n + 1)).c (Mk.mk (beC c 12) (n + 1)).n)).snd.n)).fst)] (AV.sv (SV.agg [vI 9, vI
 0, AC.ref 2, vI 0, vI 0, vS v8, AC.ref 3, AC.ref 4]))))))))))))) (.i (beX c (12 : Int) = 9) (.d [.ptr, .rd, .rd, .rd] (P_c_dKids (d - 1) 1 (beC c 12) n S) (.w (.ghost (.nilbox 2 2
 true 1)) (.w (.ghost (.nilbox 2 6 true 4)) (.f [7, 8, 6] [Ob.box [AC.ptr 1 0, vI (kidH (d - 1) S v1 (Mk.mk (beC c 12) n)).snd.n], Ob.box [vL (List.map byteC (kidH (d - 1) S v1
 (Mk.mk (beC c 12) n)).snd.c.b), vI (↑(kidH (d - 1) S v1 (Mk.mk (beC c 12) n)).snd.c.i : Int), vI (kidH (d - 1) S v1 (Mk.mk (beC c 12) n)).snd.c.h], Ob.arr true 1 [], Ob.arr true 4
 [], Ob.arr true 8 (List.map coreC (kidH (d - 1) S 1 (Mk.mk (beC c 12) n)).fst)] (AV.sv (SV.agg [vI 10, vI 0, AC.ref 2, vI 0, vI 0, vS v8, AC.ref 3, AC.ref 4])))))) (.i (beX c (12
 : Int) = 10) (.d [.ptr] (P_c_dFre (beC c 12) n) (.p v6 (.w (.ghost (.lock 6)) (.u [.ptr, .rd, .rd, .rd] (P_c_dKids (d - 1) 1 (Mk.mk (beC c 12) (n + 1)).c (Mk.mk (beC c 12) (n +
 1)).n v2) (.p (CallOK Try.prog 55 [Ob.box [AC.ptr 1 0, vI (Mk.mk (beC c 12) (n + 1)).n], Ob.box [vL (List.map byteC (Mk.mk (beC c 12) (n + 1)).c.b), vI (↑(Mk.mk (beC c 12) (n +
 1)).c.i : Int), vI (Mk.mk (beC c 12) (n + 1)).c.h]] v3 [Ob.box [AC.ptr 1 0, vI (kidH (d - 1) v2 v1 (Mk.mk (Mk.mk (beC c 12) (n + 1)).c (Mk.mk (beC c 12) (n + 1)).n)).snd.n],
 Ob.box [vL (List.map byteC (kidH (d - 1) v2 v1 (Mk.mk (Mk.mk (beC c 12) (n + 1)).c (Mk.mk (beC c 12) (n + 1)).n)).snd.c.b), vI (↑(kidH (d - 1) v2 v1 (Mk.mk (Mk.mk (beC c 12) (n +
 1)).c (Mk.mk (beC c 12) (n + 1)).n)).snd.c.i : Int), vI (kidH (d - 1) v2 v1 (Mk.mk (Mk.mk (beC c 12) (n + 1)).c (Mk.mk (beC c 12) (n + 1)).n)).snd.c.h], Ob.arr true 8 (List.map
 coreC (kidH (d - 1) v2 1 (Mk.mk (Mk.mk (beC c 12) (n + 1)).c (Mk.mk (beC c 12) (n + 1)).n)).fst)] v7) (.w (.ghost (.nilbox 2 6 true 4)) (.f [4, 10, 9] [Ob.box [AC.ptr 1 0, vI
 (kidH (d - 1) v2 v1 (Mk.mk (Mk.mk (beC c 12) (n + 1)).c (Mk.mk (beC c 12) (n + 1)).n)).snd.n], Ob.box [vL (List.map byteC (kidH (d - 1) v2 v1 (Mk.mk (Mk.mk (beC c 12) (n + 1)).c
 (Mk.mk (beC c 12) (n + 1)).n)).snd.c.b), vI (↑(kidH (d - 1) v2 v1 (Mk.mk (Mk.mk (beC c 12) (n + 1)).c (Mk.mk (beC c 12) (n + 1)).n)).snd.c.i : Int), vI (kidH (d - 1) v2 v1 (Mk.mk
 (Mk.mk (beC c 12) (n + 1)).c (Mk.mk (beC c 12) (n + 1)).n)).snd.c.h], Ob.arr true 1 [[cI (n + 1)]], Ob.arr true 4 [], Ob.arr true 8 (List.map coreC (kidH (d - 1) v2 1 (Mk.mk
 (Mk.mk (beC c 12) (n + 1)).c (Mk.mk (beC c 12) (n + 1)).n)).fst)] (AV.sv (SV.agg [vI 11, vI 0, AC.ref 2, vI 0, vI 0, vS v8, AC.ref 3, AC.ref 4]))))))))) (.z intC S (.i (0 < v5)
 (.w (.draw [(7, [1]), (13, [0, 1]), (15, [2])]) (.d [.ptr, .rd] (P_c_dBelow (beC c 12) v5) (.x (beX (beC c 12) v5) (List.map intC S) [cI (S.getD (beX (beC c 12) v5).toNat 0)] (.d
 [.ptr, .rd, .rd, .rd] (P_c_dKids (d - 1) 1 (beC (beC c 12) v5) n S) (.z intC S (.w (.ghost (.nilbox 2 2 true 1)) (.w (.ghost (.nilbox 2 6 true 4)) (.f [15, 16, 14] [Ob.box [AC.ptr
 1 0, vI (kidH (d - 1) S v1 (Mk.mk (beC (beC c 12) v5) n)).snd.n], Ob.box [vL (List.map byteC (kidH (d - 1) S v1 (Mk.mk (beC (beC c 12) v5) n)).snd.c.b), vI (↑(kidH (d - 1) S v1
 (Mk.mk (beC (beC c 12) v5) n)).snd.c.i : Int), vI (kidH (d - 1) S v1 (Mk.mk (beC (beC c 12) v5) n)).snd.c.h], Ob.arr true 1 [], Ob.arr true 4 [], Ob.arr true 8 (List.map coreC
 (kidH (d - 1) S 1 (Mk.mk (beC (beC c 12) v5) n)).fst)] (AV.sv (SV.agg [vI 4, vI (S.getD (beX (beC c 12) v5).toNat 0), AC.ref 2, vI 0, vI 0, vS v8, AC.ref 3, AC.ref 4]))))))))))
 (.d [.ptr, .rd] (P_c_dLeaf (beC c 12) n S) (.f [6, 7, 8] [Ob.box [AC.ptr 1 0, vI (leafH (Mk.mk (beC c 12) n) S).snd.n], Ob.box [vL (List.map byteC (leafH (Mk.mk (beC c 12) n)
 S).snd.c.b), vI (↑(leafH (Mk.mk (beC c 12) n) S).snd.c.i : Int), vI (leafH (Mk.mk (beC c 12) n) S).snd.c.h], Ob.arr true 1 (List.map intC (leafH (Mk.mk (beC c 12) n)
 S).fst.params), Ob.arr true 4 (List.map datumC (leafH (Mk.mk (beC c 12) n) S).fst.datum.items), Ob.arr true 8 (List.map coreC (leafH (Mk.mk (beC c 12) n) S).fst.kids)] (AV.sv
 (SV.agg [vI (leafH (Mk.mk (beC c 12) n) S).fst.kind, vI (leafH (Mk.mk (beC c 12) n) S).fst.number, AC.ref 2, vI (leafH (Mk.mk (beC c 12) n) S).fst.datum.kind, vI (leafH (Mk.mk
 (beC c 12) n) S).fst.datum.number, vS (leafH (Mk.mk (beC c 12) n) S).fst.datum.text, AC.ref 3, AC.ref 4]))))))))))))))))))))) (by
  dsimp only [teasy, P_c_dCor, nthW, lc_dCor_sLa]
  have ok0 := h.1
  have ok1 : okK (beC c 12) := beC_ok h.1
  have b12 := beX_le c (n := 12) (by decide)
  have b3 := beX_le (beC c 12) (n := 3) (by decide)
  have b2 := beX_le (beC (beC c 12) 14) (n := 2) (by decide)
  have bS : 0 < (S.length : Int) → 0 ≤ beX (beC c 12) (S.length : Int) ∧ beX (beC c 12) (S.length : Int) < (S.length : Int) := fun a => beX_le _ a
  have rg : 0 < (S.length : Int) → (S.map intC)[(beX (beC c 12) (S.length : Int)).toNat]? = some (intF (S.getD (beX (beC c 12) (S.length : Int)).toNat default)) := fun a => rowGet (by have := bS a; omega)
  have fl := fun a : d ≤ 0 => corH_leaf a ⟨c, n⟩ S
  have f0 := fun a b => @cor_0 d ⟨c, n⟩ S a b
  have f2 := fun a b => @cor_2 d ⟨c, n⟩ S a b
  have f4 := fun a b => @cor_4 d ⟨c, n⟩ S a b
  have f6 := fun a b => @cor_6 d ⟨c, n⟩ S a b
  have f7 := fun a b => @cor_7 d ⟨c, n⟩ S a b
  have f8 := fun a b => @cor_8 d ⟨c, n⟩ S a b
  have f9 := fun a b => @cor_9 d ⟨c, n⟩ S a b
  have f10 := fun a b => @cor_10 d ⟨c, n⟩ S a b
  have f11 := fun a b e => @cor_11 d ⟨c, n⟩ S a b e
  have f12 := fun a b e => @cor_12 d ⟨c, n⟩ S a b e
  dsimp only at f0 f2 f4 f6 f7 f8 f9 f10 f11 f12
  have K1 := fun a : ¬ d ≤ 0 => kidH_ok (d := d - 1) (m := ⟨beC c 12, n + 1⟩) (S ++ [n + 1]) (n := 1) ok1 (by omega)
  dsimp only at K1
  have t1 : Int.toNat 1 = 1 := rfl
  have t2 : Int.toNat 2 = 2 := rfl
  have t3 : Int.toNat 3 = 3 := rfl
  have hk := fun (e : ¬ d ≤ 0) (c : Cr) (n : Int) (S : List Int) h => ih (d - 1) ⟨by omega, by omega⟩ c n S h
  with_reducible repeat' (first | apply And.intro | exact zR | exact ih | (intro; skip) | apply c_dBelow | apply c_dFre | apply c_dLeaf | apply c_dKids | apply c_sFlat | apply c_l2Ints)
  all_goals (try simp only [std, inj] at *)
  all_goals with_reducible repeat' apply And.intro
  all_goals (try (first | with_reducible apply c_dBelow | with_reducible apply c_dFre | with_reducible apply c_dLeaf | with_reducible apply c_dKids | with_reducible apply c_sFlat | with_reducible apply c_l2Ints | with_reducible apply ih | (simp only [← List.map_append]; first | with_reducible apply c_dBelow | with_reducible apply c_dFre | with_reducible apply c_dLeaf | with_reducible apply c_dKids | with_reducible apply c_sFlat | with_reducible apply c_l2Ints | with_reducible apply ih)))
  all_goals (try simp only [t1, t2, t3])
  all_goals first
    | exact True.intro | with_reducible rfl | with_reducible assumption | omega
    | exact beC_ok ok1 | exact beC_ok (beC_ok ok1) | exact (K1 (by omega)).1 | exact rg (by omega)
    | (have := K1 (by omega); omega)
    | (simp only [frs_len, kidH_len]; omega)
    | exact kidH_flat S ok1 (by omega)
    | (rw [← map_one]
       have ls : (S ++ [n + 1]).length = S.length + 1 := List.length_append
       exact c_dKids (d - 1) 1 (beC c 12) (n + 1) (S ++ [n + 1]) ⟨ok1, by omega, by omega, by omega, by omega, by omega, by omega, by omega⟩ (hk (by omega)))
    | (rw [← map_one]
       have ls : (S ++ [n + 1]).length = S.length + 1 := List.length_append
       have k1 := K1 (by omega)
       exact c_dKids (d - 1) 1 _ _ (S ++ [n + 1]) ⟨k1.1, by omega, by omega, by omega, by omega, by omega, by omega, by omega⟩ (hk (by omega)))
    | (rw [← List.map_append]
       have lf : (S ++ frs n (beX (beC c 12) 3).toNat).length = S.length + (beX (beC c 12) 3).toNat := by rw [List.length_append, frs_len]
       exact c_dKids (d - 1) 1 (beC (beC c 12) 3) (n + beX (beC c 12) 3) (S ++ frs n (beX (beC c 12) 3).toNat) ⟨beC_ok ok1, by omega, by omega, by omega, by omega, by omega, by omega, by omega⟩ (hk (by omega)))
    | (rw [fl (by omega)]; first | done | rfl | (simp only [mkO, kN, coreO, List.cons_append, List.nil_append, List.map_append, List.map_cons, List.map_nil, coreC_eq]; rfl))
    | (rw [f0 (by omega) (by omega)]; first | done | rfl | (simp only [mkO, kN, coreO, List.cons_append, List.nil_append, List.map_append, List.map_cons, List.map_nil, coreC_eq]; rfl))
    | (rw [f2 (by omega) (by omega)]; first | done | rfl | (simp only [mkO, kN, coreO, List.cons_append, List.nil_append, List.map_append, List.map_cons, List.map_nil, coreC_eq]; rfl))
    | (rw [f4 (by omega) (by omega)]; first | done | rfl | (simp only [mkO, kN, coreO, List.cons_append, List.nil_append, List.map_append, List.map_cons, List.map_nil, coreC_eq]; rfl))
    | (rw [f6 (by omega) (by omega)]; first | done | rfl | (simp only [mkO, kN, coreO, List.cons_append, List.nil_append, List.map_append, List.map_cons, List.map_nil, coreC_eq]; rfl))
    | (rw [f7 (by omega) (by omega)]; first | done | rfl | (simp only [mkO, kN, coreO, List.cons_append, List.nil_append, List.map_append, List.map_cons, List.map_nil, coreC_eq]; rfl))
    | (rw [f8 (by omega) (by omega)]; first | done | rfl | (simp only [mkO, kN, coreO, List.cons_append, List.nil_append, List.map_append, List.map_cons, List.map_nil, coreC_eq]; rfl))
    | (rw [f9 (by omega) (by omega)]; first | done | rfl | (simp only [mkO, kN, coreO, List.cons_append, List.nil_append, List.map_append, List.map_cons, List.map_nil, coreC_eq]; rfl))
    | (rw [f10 (by omega) (by omega)]; first | done | rfl | (simp only [mkO, kN, coreO, List.cons_append, List.nil_append, List.map_append, List.map_cons, List.map_nil, coreC_eq]; rfl))
    | (rw [f11 (by omega) (by omega) (by omega)]; first | done | rfl | (simp only [mkO, kN, coreO, List.cons_append, List.nil_append, List.map_append, List.map_cons, List.map_nil, coreC_eq]; rfl))
    | (rw [f12 (by omega) (by omega) (by omega)]; first | done | rfl | (simp only [mkO, kN, coreO, List.cons_append, List.nil_append, List.map_append, List.map_cons, List.map_nil, coreC_eq]; rfl))
    | (have e : beX (beC c 12) 3 - beX (beC c 12) 3 = 0 := by omega
       rw [e]; first | done | rfl)
    | rfl
    | skip)
theorem c_dCor (d : Int) : ∀ (c : Cr) (n : Int) (S : List Int) (h : okK c ∧ 0 ≤ d ∧ d ≤ 4 ∧ S.length + 3 * d ≤ 100 ∧ 0 ≤ n ∧ n + 1000 * d ≤ 10000), P_c_dCor d c n S := Lv.ind (P := fun d => ∀ (c : Cr) (n : Int) (S : List Int) (h : okK c ∧ 0 ≤ d ∧ d ≤ 4 ∧ S.length + 3 * d ≤ 100 ∧ 0 ≤ n ∧ n + 1000 * d ≤ 10000), P_c_dCor d c n S) (fun d ih c n S h => c_dCor_s d c n S h ih) d
end Go.Proofs.Ytgeegppaaggcjaa
end
section
namespace Go.Proofs.Ytgeegppaaggcjaa
open Go Go.Proofs.Ytgeegppaaggcjaa.Ab
set_option linter.unusedVariables false
set_option linter.unusedSimpArgs false
set_option maxHeartbeats 4000000
def lookN (L : List Int) (n : Int) : Nat → Int
  | 0 => -1
  | k + 1 => if L.getD k default = n then k else lookN L n k
def lookL (L : List Int) (n : Int) : Int := lookN L n L.length
theorem lookN_lt (L : List Int) (n : Int) : ∀ k, -1 ≤ lookN L n k ∧ lookN L n k < k
  | 0 => by simp [lookN]
  | k + 1 => by have := lookN_lt L n k; unfold lookN; split <;> omega
theorem lookL_lt (L : List Int) (n : Int) : -1 ≤ lookL L n ∧ lookL L n < L.length := lookN_lt L n L.length
theorem lookN_append (L P : List Int) (n : Int) : ∀ k, k ≤ L.length → lookN (L ++ P) n k = lookN L n k
  | 0, _ => rfl
  | k + 1, h => by
    have e : (L ++ P).getD k default = L.getD k default := by
      simp only [List.getD_eq_getElem?_getD]; rw [List.getElem?_append_left (by omega)]
    unfold lookN; rw [e, lookN_append L P n k (by omega)]
theorem lookL_snoc (L : List Int) (x n : Int) : lookL (L ++ [x]) n = if x = n then (L.length : Int) else lookL L n := by
  unfold lookL
  rw [List.length_append, List.length_singleton, lookN]
  have e : (L ++ [x]).getD L.length default = x := by simp
  rw [e, lookN_append L [x] n L.length (Nat.le_refl _)]
theorem lookL_nil (n : Int) : lookL [] n = -1 := rfl
theorem lookN_none (L : List Int) (n : Int) : ∀ k, k ≤ L.length → (lookN L n k = -1 ↔ n ∉ L.take k)
  | 0, _ => by simp [lookN]
  | k + 1, h => by
    rw [take_get (by omega)]
    have := lookN_none L n k (by omega)
    have h2 := lookN_lt L n k
    unfold lookN
    simp only [List.mem_append, List.mem_singleton]
    split <;> grind
theorem lookL_none (L : List Int) (n : Int) : lookL L n = -1 ↔ n ∉ L := by
  have := lookN_none L n L.length (Nat.le_refl _); rwa [List.take_length] at this
def ascP : List (Int × Int) → Int → Option Int
  | [], _ => none
  | p :: r, n => match ascP r n with
    | some v => some v
    | none => if n = p.1 then some p.2 else none
def asc (A B : List Int) : Int → Option Int := ascP (A.zip B)
theorem ascP_snoc : ∀ (l : List (Int × Int)) (x y : Int), upd1 (ascP l) x (some y) = ascP (l ++ [(x, y)])
  | [], x, y => by funext n; simp only [upd1, ascP, List.nil_append]
  | p :: r, x, y => by
    funext n
    have h := congrFun (ascP_snoc r x y) n
    simp only [upd1, List.cons_append, ascP] at h ⊢
    rw [← h]; split <;> simp_all
theorem ascP_none : ∀ (l : List (Int × Int)) (n : Int), ascP l n = none ↔ n ∉ l.map Prod.fst
  | [], n => by simp [ascP]
  | p :: r, n => by
    have h := ascP_none r n
    simp only [ascP, List.map_cons, List.mem_cons]
    cases e : ascP r n with
    | none => rw [e] at h; simp at h; grind
    | some v => rw [e] at h; simp at h; grind
theorem ascP_del : ∀ (l r : List (Int × Int)) (x y : Int), x ∉ l.map Prod.fst → x ∉ r.map Prod.fst → upd1 (ascP (l ++ (x, y) :: r)) x none = ascP (l ++ r)
  | [], r, x, y, _, hr => by
    funext n
    simp only [upd1, List.nil_append, ascP]
    have h := (ascP_none r n).2
    split
    · rename_i e; subst e; exact (h hr).symm
    · cases ascP r n <;> simp_all
  | p :: l, r, x, y, hl, hr => by
    have ih := ascP_del l r x y (fun h => hl (List.mem_cons_of_mem _ h)) hr
    funext n
    have h := congrFun ih n
    have hx : x ≠ p.1 := fun e => hl (by rw [e]; exact List.mem_cons_self)
    simp only [upd1, List.cons_append, ascP] at h ⊢
    rw [← h]; split <;> simp_all
theorem asc_nil : zO = asc [] [] := by funext n; simp [zO, asc, ascP]
theorem asc_snoc {A B : List Int} {x y : Int} (h : A.length = B.length) : upd1 (asc A B) x (some y) = asc (A ++ [x]) (B ++ [y]) := by
  unfold asc; rw [ascP_snoc, List.zip_append h]; rfl
theorem asc_del {A B P Q : List Int} {x y : Int} (h : A.length = B.length) (h2 : P.length = Q.length) (hA : x ∉ A) (hP : x ∉ P) : upd1 (asc (A ++ x :: P) (B ++ y :: Q)) x none = asc (A ++ P) (B ++ Q) := by
  unfold asc
  rw [List.zip_append h, List.zip_append h, List.zip_cons_cons]
  refine ascP_del _ _ _ _ ?_ ?_
  · rw [List.map_fst_zip (by omega)]; exact hA
  · rw [List.map_fst_zip (by omega)]; exact hP
theorem asc_look : ∀ (m : Nat) (A B : List Int), A.length = m → B.length = m → ∀ n, asc A B n = if 0 ≤ lookL A n then some (B.getD (lookL A n).toNat default) else none
  | 0, A, B, hA, hB, n => by
    obtain rfl := List.length_eq_zero_iff.1 hA
    obtain rfl := List.length_eq_zero_iff.1 hB
    simp [asc, ascP, lookL_nil]
  | m + 1, A, B, hA, hB, n => by
    have eA : A = A.take m ++ [A.getD m 0] := by rw [← takeI (by omega), List.take_of_length_le (by omega)]
    have eB : B = B.take m ++ [B.getD m 0] := by rw [← takeI (by omega), List.take_of_length_le (by omega)]
    obtain ⟨A', x, rfl⟩ : ∃ A' x, A = A' ++ [x] := ⟨_, _, eA⟩
    obtain ⟨B', y, rfl⟩ : ∃ B' y, B = B' ++ [y] := ⟨_, _, eB⟩
    clear eA eB
    simp only [List.length_append, List.length_singleton] at hA hB
    have ih := asc_look m A' B' (by omega) (by omega) n
    rw [← asc_snoc (by omega), lookL_snoc]
    have h1 := lookL_lt A' n
    simp only [upd1]
    by_cases e : n = x
    · subst e
      rw [if_pos rfl, if_pos rfl, if_pos (by omega)]
      have : (A'.length : Int).toNat = B'.length := by omega
      rw [this]; simp
    · simp only [if_neg e, if_neg (fun e' : x = n => e e'.symm), ih]
      by_cases h : 0 ≤ lookL A' n
      · simp only [if_pos h]
        congr 1
        simp only [List.getD_eq_getElem?_getD]
        rw [List.getElem?_append_left (by omega)]
      · simp only [if_neg h]
theorem look_get : ∀ (L : List Int), L.Nodup → ∀ (i : Nat), i < L.length → lookL L (L.getD i default) = i := by
  intro L hn i hi
  have h1 := lookL_lt L (L.getD i default)
  have h2 : lookL L (L.getD i default) ≠ -1 := fun e => (lookL_none L _).1 e (getD_mem' hi)
  have h3 : ∀ k, k ≤ L.length → lookN L (L.getD i default) k ≠ -1 → L.getD (lookN L (L.getD i default) k).toNat default = L.getD i default := by
    intro k
    induction k with
    | zero => intro _ h; exact absurd rfl h
    | succ k ih =>
      intro hk h
      unfold lookN at h ⊢
      split
      · rename_i e; simpa using e
      · rename_i e; rw [if_neg e] at h; exact ih (by omega) h
  have h4 := h3 L.length (Nat.le_refl _) h2
  have h5 : (lookL L (L.getD i default)).toNat < L.length := by omega
  have e1 : ∀ j (hj : j < L.length), L.getD j default = L[j] := fun j hj => by simp [hj]
  have h6 : L[(lookL L (L.getD i default)).toNat] = L[i] := by
    rw [← e1 _ h5, ← e1 _ hi]; exact h4
  have := (List.getElem_inj hn).1 h6
  omega
theorem num_iff {A B : List Int} (hl : A.length = B.length) (hA : A.Nodup) (hB : B.Nodup) (n m : Int) :
    (lookL A n = lookL B m ∧ (0 ≤ lookL A n ∨ n = m)) ↔ ((asc A B n).isSome = (asc B A m).isSome ∧ ((asc A B n).isSome = true → (asc A B n).getD 0 = m ∧ (asc B A m).getD 0 = n) ∧ ((asc A B n).isSome = false → n = m)) := by
  rw [asc_look _ A B rfl hl.symm, asc_look _ B A rfl hl]
  have a1 := lookL_lt A n
  have b1 := lookL_lt B m
  have a2 := look_get A hA
  have b2 := look_get B hB
  by_cases h1 : 0 ≤ lookL A n
  · by_cases h2 : 0 ≤ lookL B m
    · simp only [if_pos h1, if_pos h2, Option.isSome_some, Option.getD_some, true_and]
      have c1 := b2 (lookL A n).toNat (by omega)
      have c2 := a2 (lookL B m).toNat (by omega)
      constructor
      · rintro ⟨e, _⟩
        refine ⟨fun _ => ⟨?_, ?_⟩, fun h => Bool.noConfusion h⟩
        · have d : ∀ k, k ≤ B.length → lookN B m k ≠ -1 → B.getD (lookN B m k).toNat default = m := by
            intro k
            induction k with
            | zero => intro _ h; exact absurd rfl h
            | succ k ih =>
              intro hk h
              unfold lookN at h ⊢
              split
              · rename_i e; simpa using e
              · rename_i e; rw [if_neg e] at h; exact ih (by omega) h
          have := d B.length (Nat.le_refl _) (by show lookL B m ≠ -1; omega)
          rw [e]; exact this
        · have d : ∀ k, k ≤ A.length → lookN A n k ≠ -1 → A.getD (lookN A n k).toNat default = n := by
            intro k
            induction k with
            | zero => intro _ h; exact absurd rfl h
            | succ k ih =>
              intro hk h
              unfold lookN at h ⊢
              split
              · rename_i e; simpa using e
              · rename_i e; rw [if_neg e] at h; exact ih (by omega) h
          have := d A.length (Nat.le_refl _) (by show lookL A n ≠ -1; omega)
          rw [← e]; exact this
      · rintro ⟨h, _⟩
        have := (h trivial).1
        rw [this] at c1
        exact ⟨by omega, .inl h1⟩
    · simp only [if_pos h1, if_neg h2, Option.isSome_some, Option.isSome_none]
      constructor
      · rintro ⟨e, _⟩; omega
      · rintro ⟨e, _⟩; exact Bool.noConfusion e
  · by_cases h2 : 0 ≤ lookL B m
    · simp only [if_neg h1, if_pos h2, Option.isSome_some, Option.isSome_none]
      constructor
      · rintro ⟨e, _⟩; omega
      · rintro ⟨e, _⟩; exact Bool.noConfusion e
    · simp only [if_neg h1, if_neg h2, Option.isSome_none, true_and]
      constructor
      · rintro ⟨_, e⟩; exact ⟨fun h => Bool.noConfusion h, fun _ => by omega⟩
      · rintro ⟨_, e⟩; exact ⟨by omega, .inr (e trivial)⟩
mutual
def alf : Core → Core → List Int → List Int → Bool
  | ⟨k, n, p, d, l⟩, ⟨k', n', p', d', l'⟩, A, B => decide (k = k') && decide (p.length = p'.length) && decide (l.length = l'.length) && decide (d = d') &&
      (if k = 2 ∨ k = 4 then decide (lookL A n = lookL B n' ∧ (0 ≤ lookL A n ∨ n = n')) else decide (n = n')) && alfs l l' (A ++ p) (B ++ p')
def alfs : List Core → List Core → List Int → List Int → Bool
  | x :: r, y :: t, A, B => alf x y A B && alfs r t A B
  | _, _, _, _ => true
end
def alf0 (a b : Core) (A B : List Int) : Bool := decide (a.kind = b.kind) && decide (a.params.length = b.params.length) && decide (a.kids.length = b.kids.length) && decide (a.datum = b.datum) &&
      (if a.kind = 2 ∨ a.kind = 4 then decide (lookL A a.number = lookL B b.number ∧ (0 ≤ lookL A a.number ∨ a.number = b.number)) else decide (a.number = b.number))
theorem alf_eq (a b : Core) (A B : List Int) : alf a b A B = (alf0 a b A B && alfs a.kids b.kids (A ++ a.params) (B ++ b.params)) := by cases a; cases b; simp only [alf, alf0]
theorem alfs_append : ∀ (l l' m m' : List Core) (A B : List Int), l.length = l'.length → alfs (l ++ m) (l' ++ m') A B = (alfs l l' A B && alfs m m' A B)
  | [], [], _, _, _, _, _ => by simp [alfs]
  | x :: r, y :: t, m, m', A, B, h => by
    simp only [List.cons_append, alfs, alfs_append r t m m' A B (by simpa using h), Bool.and_assoc]
  | [], _ :: _, _, _, _, _, h => by simp at h
  | _ :: _, [], _, _, _, _, h => by simp at h
theorem alfs_step {l l' : List Core} {A B : List Int} {k : Nat} (h : k < l.length) (hl : l.length = l'.length) : alfs (l.take (k + 1)) (l'.take (k + 1)) A B = (alfs (l.take k) (l'.take k) A B && alf (l.getD k default) (l'.getD k default) A B) := by
  rw [take_get h, take_get (by omega : k < l'.length), alfs_append _ _ _ _ _ _ (by simp; omega)]
  simp [alfs]
abbrev P_c_sLook (L : List Int) (n : Int) : Ct := ⟨47, [], [ll (L.map intC), li n], [], .sv (li (lookL L n))⟩
def lc_sLookLa (L : List Int) (n : Int) : Lp (Int) := .mk 20 0 (fun x => [(0, ll (List.map intC L)), (1, li n), (5, hs x 0)]) (fun x => []) (fun k => [.s (li k)]) (fun k => (-1 :
 Int) ≤ k ∧ k < (↑L.length : Int) ∧ (↑L.length : Int) ≤ 9223372036854775807 ∧ lookL L n = lookN L n (k + 1).toNat) (fun k => (k + 1).toNat) [.mk (lookL L n = (-1 : Int)) (.exit 0)
 (fun x => []) (fun x => []) [], .mk True .ret (fun x => [(4, hs x 0)]) (fun x => []) [.s (li (lookL L n))]]
theorem Sc_sLookLa (L : List Int) (n : Int) : Lp.Sem Try.prog (loopAt Try.f47 0) (lc_sLookLa L n) := lpOK (fun k => .i (0 ≤ k) (.x k (List.map intC L) [cI (L.getD k.toNat 0)] (.i
 (L.getD k.toNat 0 = n) (.o 1 [] [.s (li k)]) (.r (k - 1) (.g [] (k - 1) [.s (li (k - 1))])))) (.o 0 [] [])) (by
  intro k h; try dsimp only [teasy, nthW, lc_sLookLa] at h ⊢
  have g : 0 ≤ k → lookN L n (k + 1).toNat = if L.getD k.toNat 0 = n then k else lookN L n (k - 1 + 1).toNat := by
    intro hk
    have e1 : (k + 1).toNat = k.toNat + 1 := by omega
    have e2 : (k - 1 + 1).toNat = k.toNat := by omega
    have e3 : ((k.toNat : Nat) : Int) = k := by omega
    rw [e1, e2, lookN, e3]; rfl
  have g2 : k = -1 → lookN L n (k + 1).toNat = -1 := fun e => by rw [e]; rfl
  with_reducible repeat' (first | apply And.intro | exact zR | (intro; skip) | apply mIc | apply mOc | apply mSc | apply mLc)
  all_goals (try simp only [std, inj] at *)
  all_goals with_reducible repeat' apply And.intro
  all_goals (try (first | exact z | exact zM | grind [snocI, snocS, rowSnoc])))
theorem c_sLook (L : List Int) (n : Int)  : P_c_sLook L n := fnOK Try.call47 Try.func47 (.z intC L (.r ((↑(List.map intC L).length : Int) - 1) (.l (lc_sLookLa L n) (Sc_sLookLa L n)
 [] [.s (li ((↑(List.map intC L).length : Int) - 1))] ((↑L.length : Int) - 1) (.t (.s (li (-1 : Int))) (.t (.s (li (lookL L n))) .q))))) (by
  dsimp only [teasy, P_c_sLook, nthW, lc_sLookLa]
  have g : ((L.length : Int) - 1 + 1).toNat = L.length := by omega
  with_reducible repeat' (first | apply And.intro | exact zR | (intro; skip) | apply mIc | apply mOc | apply mSc | apply mLc)
  all_goals (try simp only [std, inj] at *)
  all_goals with_reducible repeat' apply And.intro
  all_goals (try (first | exact z | exact zM | grind [lookL, snocI, snocS, rowSnoc])))
theorem asc_put {A B P Q : List Int} {k : Nat} (hl : A.length = B.length) (hp : P.length = Q.length) (hk : k < P.length) : upd1 (asc (A ++ P.take k) (B ++ Q.take k)) (P.getD k 0) (some (Q.getD k 0)) = asc (A ++ P.take (k + 1)) (B ++ Q.take (k + 1)) := by
  rw [asc_snoc (by simp; omega), takeI hk, takeI (by omega : k < Q.length), List.append_assoc, List.append_assoc]
theorem dropI {L : List Int} {k : Nat} (h : k < L.length) : L.drop k = L.getD k 0 :: L.drop (k + 1) := drop_get h
theorem nodup_at {A P : List Int} {k : Nat} (h : (A ++ P).Nodup) (hk : k < P.length) : P.getD k 0 ∉ A ∧ P.getD k 0 ∉ P.drop (k + 1) := by
  have e : A ++ P = (A ++ P.take k) ++ (P.getD k 0 :: P.drop (k + 1)) := by rw [← dropI hk, List.append_assoc, List.take_append_drop]
  rw [e, List.nodup_append] at h
  refine ⟨fun hA => h.2.2 _ (List.mem_append_left _ hA) _ List.mem_cons_self rfl, ?_⟩
  exact (List.nodup_cons.1 h.2.1).1
theorem asc_drop {A B P Q : List Int} {k : Nat} (hl : A.length = B.length) (hp : P.length = Q.length) (hk : k < P.length) (hn : (A ++ P).Nodup) : upd1 (asc (A ++ P.drop k) (B ++ Q.drop k)) (P.getD k 0) none = asc (A ++ P.drop (k + 1)) (B ++ Q.drop (k + 1)) := by
  have h := nodup_at hn hk
  rw [dropI hk, dropI (by omega : k < Q.length)]
  exact asc_del hl (by simp; omega) h.1 h.2
theorem nodup_kid {A : List Int} {a x : Core} (h : (A ++ bnd a).Nodup) (hx : x ∈ a.kids) : (A ++ a.params ++ bnd x).Nodup := by
  rw [bnd_eq, ← List.append_assoc] at h
  refine List.Nodup.sublist ?_ h
  refine List.Sublist.append (List.Sublist.refl _) ?_
  obtain ⟨s, t, e⟩ := List.append_of_mem hx
  rw [e, List.flatMap_append, List.flatMap_cons]
  exact (List.sublist_append_left _ _).trans (List.sublist_append_right _ _)
theorem nodup_par {A : List Int} {a : Core} (h : (A ++ bnd a).Nodup) : (A ++ a.params).Nodup := by
  rw [bnd_eq, ← List.append_assoc] at h
  exact (List.nodup_append.1 h).1
theorem nodup_left {A P : List Int} (h : (A ++ P).Nodup) : A.Nodup := (List.nodup_append.1 h).1
abbrev P_c_iAlpha (a : Core) (b : Core) (A : List Int) (B : List Int) : Ct := ⟨17, [.map false kO (mO (asc A B)), .map false kO (mO (asc B A))], [coreA a, coreA b, .one (.mref 0), .one (.mref 1)], [.map false kO (mO (asc A B)), .map false kO (mO (asc B A))], .sv (lb (alf a b A B))⟩
def lc_iAlpha_sLc (a : Core) (b : Core) (A : List Int) (B : List Int) : Lp Nat := .mk 176 2 (fun x => [(2, SV.one (AC.mref 0)), (3, SV.one (AC.mref 1)), (4, SV.one (AC.ptr 2 0)),
 (5, SV.one (AC.ptr 3 0)), (14, lb (alfs a.kids b.kids (A ++ a.params) (B ++ b.params))), (158, li (↑(List.map intC a.params).length : Int)), (159, hs x 0)]) (fun x => [ho x 1, ho
 x 2, Ob.box (vals (coreF a)), Ob.box (vals (coreF b))]) (fun k => [.s (li (↑k : Int)), .o (Ob.map false kO (mO (asc (A ++ List.drop k a.params) (B ++ List.drop k b.params)))), .o
 (Ob.map false kO (mO (asc (B ++ List.drop k b.params) (A ++ List.drop k a.params))))]) (fun k => k ≤ a.params.length ∧ a.params.length ≤ 9223372036854775807 ∧ a.params.length =
 b.params.length) (fun k => a.params.length - k) [.mk True (.exit 4) (fun x => [(14, lb (alfs a.kids b.kids (A ++ a.params) (B ++ b.params)))]) (fun x => [ho x 0, ho x 1]) [.o
 (Ob.map false kO (mO (asc A B))), .o (Ob.map false kO (mO (asc B A)))]]
def lc_iAlpha_sLb (a : Core) (b : Core) (A : List Int) (B : List Int) : Lp Nat := .mk 176 2 (fun x => [(2, SV.one (AC.mref 0)), (3, SV.one (AC.mref 1)), (4, SV.one (AC.ptr 2 0)),
 (5, SV.one (AC.ptr 3 0)), (14, hs x 1), (135, li (↑(List.map coreC a.kids).length : Int)), (136, hs x 0)]) (fun x => [Ob.map false kO (mO (asc (A ++ a.params) (B ++ b.params))),
 Ob.map false kO (mO (asc (B ++ b.params) (A ++ a.params))), Ob.box (vals (coreF a)), Ob.box (vals (coreF b))]) (fun k => [.s (li (↑k : Int)), .s (lb (alfs (List.take k a.kids)
 (List.take k b.kids) (A ++ a.params) (B ++ b.params)))]) (fun k => k ≤ a.kids.length ∧ a.kids.length ≤ 9223372036854775807 ∧ a.kids.length = b.kids.length ∧ a.params.length =
 b.params.length) (fun k => a.kids.length - k) [.mk True (.exit 2) (fun x => [(2, SV.one (AC.mref 0)), (3, SV.one (AC.mref 1)), (4, SV.one (AC.ptr 2 0)), (5, SV.one (AC.ptr 3 0)),
 (14, hs x 0)]) (fun x => [Ob.map false kO (mO (asc (A ++ a.params) (B ++ b.params))), Ob.map false kO (mO (asc (B ++ b.params) (A ++ a.params))), Ob.box (vals (coreF a)), Ob.box
 (vals (coreF b))]) [.s (lb (alfs a.kids b.kids (A ++ a.params) (B ++ b.params)))]]
def lc_iAlpha_sLa (a : Core) (b : Core) (A : List Int) (B : List Int) : Lp Nat := .mk 176 2 (fun x => [(2, SV.one (AC.mref 0)), (3, SV.one (AC.mref 1)), (4, SV.one (AC.ptr 2 0)),
 (5, SV.one (AC.ptr 3 0)), (106, li (↑(List.map intC a.params).length : Int)), (107, hs x 0)]) (fun x => [ho x 1, ho x 2, Ob.box (vals (coreF a)), Ob.box (vals (coreF b))]) (fun k
 => [.s (li (↑k : Int)), .o (Ob.map false kO (mO (asc (A ++ List.take k a.params) (B ++ List.take k b.params)))), .o (Ob.map false kO (mO (asc (B ++ List.take k b.params) (A ++
 List.take k a.params))))]) (fun k => k ≤ a.params.length ∧ a.params.length ≤ 9223372036854775807 ∧ a.params.length = b.params.length) (fun k => a.params.length - k) [.mk True
 (.exit 0) (fun x => [(2, SV.one (AC.mref 0)), (3, SV.one (AC.mref 1)), (4, SV.one (AC.ptr 2 0)), (5, SV.one (AC.ptr 3 0))]) (fun x => [ho x 0, ho x 1, Ob.box (vals (coreF a)),
 Ob.box (vals (coreF b))]) [.o (Ob.map false kO (mO (asc (A ++ a.params) (B ++ b.params)))), .o (Ob.map false kO (mO (asc (B ++ b.params) (A ++ a.params))))]]
theorem Sc_iAlpha_sLc (a : Core) (b : Core) (A : List Int) (B : List Int) (h : A.length = B.length ∧ (A ++ bnd a).Nodup ∧ (B ++ bnd b).Nodup) (ih : ∀ (z : Core), z ∈ a.kids → ∀ (b
 : Core) (A B : List Int), A.length = B.length ∧ (A ++ bnd z).Nodup ∧ (B ++ bnd b).Nodup → OK (P_c_iAlpha z b A B)) : Lp.Sem Try.prog (loopAt Try.f17 2) (lc_iAlpha_sLc a b A B) :=
 lpOK (fun k => .i ((↑k : Int) < (↑(List.map intC a.params).length : Int)) (.x (↑k : Int) (List.map intC a.params) [cI (a.params.getD k 0)] (.w (.upd (mO (upd1 (asc (A ++ List.drop
 k a.params) (B ++ List.drop k b.params)) (a.params.getD k 0) none))) (.p (false = false) (.p (UpdF kO.d (mO (asc (A ++ List.drop k a.params) (B ++ List.drop k b.params))) (mO
 (upd1 (asc (A ++ List.drop k a.params) (B ++ List.drop k b.params)) (a.params.getD k 0) none)) (Value.int IntKind.i64 (a.params.getD k 0)) none) (.x (↑k : Int) (List.map intC
 b.params) [cI (b.params.getD k 0)] (.w (.upd (mO (upd1 (asc (B ++ List.drop k b.params) (A ++ List.drop k a.params)) (b.params.getD k 0) none))) (.p (false = false) (.p (UpdF kO.d
 (mO (asc (B ++ List.drop k b.params) (A ++ List.drop k a.params))) (mO (upd1 (asc (B ++ List.drop k b.params) (A ++ List.drop k a.params)) (b.params.getD k 0) none)) (Value.int
 IntKind.i64 (b.params.getD k 0)) none) (.r ((↑k : Int) + 1) (.g [0, 1, 2, 3] (k + 1) [.s (li ((↑k : Int) + 1)), .o (Ob.map false kO (mO (upd1 (asc (A ++ List.drop k a.params) (B
 ++ List.drop k b.params)) (a.params.getD k 0) none))), .o (Ob.map false kO (mO (upd1 (asc (B ++ List.drop k b.params) (A ++ List.drop k a.params)) (b.params.getD k 0)
 none)))])))))))))) (.o 0 [0, 1] [.o (Ob.map false kO (mO (asc (A ++ List.drop k a.params) (B ++ List.drop k b.params)))), .o (Ob.map false kO (mO (asc (B ++ List.drop k b.params)
 (A ++ List.drop k a.params))))])) (by
  intro k h; try dsimp only [teasy, nthW, lc_iAlpha_sLc] at h ⊢
  have g1 := @asc_drop A B a.params b.params k
  have g2 := @asc_drop B A b.params a.params k
  have g3 := @nodup_par A a
  have g4 := @nodup_par B b
  have g5 : ∀ j, a.params.length ≤ j → a.params.drop j = [] := fun j h => List.drop_eq_nil_of_le h
  have g6 : ∀ j, b.params.length ≤ j → b.params.drop j = [] := fun j h => List.drop_eq_nil_of_le h
  with_reducible repeat' (first | apply And.intro | exact zR | exact ih | (intro; skip) | apply mIc | apply mOc | apply mSc | apply mLc | apply c_iEqData)
  all_goals (try simp only [std, inj] at *)
  all_goals with_reducible repeat' apply And.intro
  all_goals (try (first | with_reducible apply c_iEqData | with_reducible apply ih | (simp only [← List.map_append]; first | with_reducible apply c_iEqData | with_reducible apply ih)))
  all_goals (try (first | exact z | exact zM | grind [snocI, snocS, rowSnoc])))
theorem Sc_iAlpha_sLb (a : Core) (b : Core) (A : List Int) (B : List Int) (h : A.length = B.length ∧ (A ++ bnd a).Nodup ∧ (B ++ bnd b).Nodup) (ih : ∀ (z : Core), z ∈ a.kids → ∀ (b
 : Core) (A B : List Int), A.length = B.length ∧ (A ++ bnd z).Nodup ∧ (B ++ bnd b).Nodup → OK (P_c_iAlpha z b A B)) : Lp.Sem Try.prog (loopAt Try.f17 1) (lc_iAlpha_sLb a b A B) :=
 lpOK (fun k => .i ((↑k : Int) < (↑(List.map coreC a.kids).length : Int)) (.w (.draw [(14, [0, 1])]) (.b (alfs (List.take k a.kids) (List.take k b.kids) (A ++ a.params) (B ++
 b.params)) (.x (↑k : Int) (List.map coreC a.kids) (coreF (a.kids.getD k default)) (.x (↑k : Int) (List.map coreC b.kids) (coreF (b.kids.getD k default)) (.d [.rd, .rd, .map, .map]
 (P_c_iAlpha (a.kids.getD k default) (b.kids.getD k default) (A ++ a.params) (B ++ b.params)) (.r ((↑k : Int) + 1) (.g [0, 1, 2, 3] (k + 1) [.s (li ((↑k : Int) + 1)), .s (lb (alf
 (a.kids.getD k default) (b.kids.getD k default) (A ++ a.params) (B ++ b.params)))]))))) (.r ((↑k : Int) + 1) (.g [0, 1, 2, 3] (k + 1) [.s (li ((↑k : Int) + 1)), .s (lb false)]))))
 (.o 0 [0, 1, 2, 3] [.s (lb (alfs (List.take k a.kids) (List.take k b.kids) (A ++ a.params) (B ++ b.params)))])) (by
  intro k h; try dsimp only [teasy, nthW, lc_iAlpha_sLb] at h ⊢
  have g1 := @alfs_step a.kids b.kids (A ++ a.params) (B ++ b.params) k
  have g2 := @nodup_kid A a (a.kids.getD k default)
  have g3 := @nodup_kid B b (b.kids.getD k default)
  have g4 : ∀ j, a.kids.length ≤ j → a.kids.take j = a.kids := fun j h => List.take_of_length_le h
  have g5 : ∀ j, b.kids.length ≤ j → b.kids.take j = b.kids := fun j h => List.take_of_length_le h
  with_reducible repeat' (first | apply And.intro | exact zR | exact ih | (intro; skip) | apply mIc | apply mOc | apply mSc | apply mLc | apply c_iEqData | apply ih)
  all_goals (try simp only [std, inj] at *)
  all_goals with_reducible repeat' apply And.intro
  all_goals (try (first | with_reducible apply c_iEqData | with_reducible apply ih | (simp only [← List.map_append]; first | with_reducible apply c_iEqData | with_reducible apply ih)))
  all_goals (try (first | exact z | exact zM | grind [getD_mem', snocI, snocS, rowSnoc])))
theorem Sc_iAlpha_sLa (a : Core) (b : Core) (A : List Int) (B : List Int) (h : A.length = B.length ∧ (A ++ bnd a).Nodup ∧ (B ++ bnd b).Nodup) (ih : ∀ (z : Core), z ∈ a.kids → ∀ (b
 : Core) (A B : List Int), A.length = B.length ∧ (A ++ bnd z).Nodup ∧ (B ++ bnd b).Nodup → OK (P_c_iAlpha z b A B)) : Lp.Sem Try.prog (loopAt Try.f17 0) (lc_iAlpha_sLa a b A B) :=
 lpOK (fun k => .i ((↑k : Int) < (↑(List.map intC a.params).length : Int)) (.w (.draw [(11, [0])]) (.x (↑k : Int) (List.map intC a.params) [cI (a.params.getD k 0)] (.x (↑k : Int)
 (List.map intC b.params) [cI (b.params.getD k 0)] (.w (.upd (mO (upd1 (asc (A ++ List.take k a.params) (B ++ List.take k b.params)) (a.params.getD k 0) (some (b.params.getD k
 0))))) (.p (false = false) (.p (UpdF kO.d (mO (asc (A ++ List.take k a.params) (B ++ List.take k b.params))) (mO (upd1 (asc (A ++ List.take k a.params) (B ++ List.take k
 b.params)) (a.params.getD k 0) (some (b.params.getD k 0)))) (Value.int IntKind.i64 (a.params.getD k 0)) (some (cI (b.params.getD k 0)))) (.w (.draw [(11, [1])]) (.x (↑k : Int)
 (List.map intC b.params) [cI (b.params.getD k 0)] (.x (↑k : Int) (List.map intC a.params) [cI (a.params.getD k 0)] (.w (.upd (mO (upd1 (asc (B ++ List.take k b.params) (A ++
 List.take k a.params)) (b.params.getD k 0) (some (a.params.getD k 0))))) (.p (false = false) (.p (UpdF kO.d (mO (asc (B ++ List.take k b.params) (A ++ List.take k a.params))) (mO
 (upd1 (asc (B ++ List.take k b.params) (A ++ List.take k a.params)) (b.params.getD k 0) (some (a.params.getD k 0)))) (Value.int IntKind.i64 (b.params.getD k 0)) (some (cI
 (a.params.getD k 0)))) (.r ((↑k : Int) + 1) (.g [0, 1, 2, 3] (k + 1) [.s (li ((↑k : Int) + 1)), .o (Ob.map false kO (mO (upd1 (asc (A ++ List.take k a.params) (B ++ List.take k
 b.params)) (a.params.getD k 0) (some (b.params.getD k 0))))), .o (Ob.map false kO (mO (upd1 (asc (B ++ List.take k b.params) (A ++ List.take k a.params)) (b.params.getD k 0) (some
 (a.params.getD k 0)))))])))))))))))))) (.o 0 [0, 1, 2, 3] [.o (Ob.map false kO (mO (asc (A ++ List.take k a.params) (B ++ List.take k b.params)))), .o (Ob.map false kO (mO (asc (B
 ++ List.take k b.params) (A ++ List.take k a.params))))])) (by
  intro k h; try dsimp only [teasy, nthW, lc_iAlpha_sLa] at h ⊢
  have g1 := @asc_put A B a.params b.params k
  have g2 := @asc_put B A b.params a.params k
  have g3 : ∀ j, a.params.length ≤ j → a.params.take j = a.params := fun j h => List.take_of_length_le h
  have g4 : ∀ j, b.params.length ≤ j → b.params.take j = b.params := fun j h => List.take_of_length_le h
  with_reducible repeat' (first | apply And.intro | exact zR | exact ih | (intro; skip) | apply mIc | apply mOc | apply mSc | apply mLc | apply c_iEqData)
  all_goals (try simp only [std, inj] at *)
  all_goals with_reducible repeat' apply And.intro
  all_goals (try (first | with_reducible apply c_iEqData | with_reducible apply ih | (simp only [← List.map_append]; first | with_reducible apply c_iEqData | with_reducible apply ih)))
  all_goals (try (first | exact z | exact zM | grind [snocI, snocS, rowSnoc])))
theorem c_iAlpha_s (a b : Core) (A B : List Int) (h : A.length = B.length ∧ (A ++ bnd a).Nodup ∧ (B ++ bnd b).Nodup) (ih : ∀ z ∈ a.kids, ∀ (b : Core) (A : List Int) (B : List Int)
 (h : A.length = B.length ∧ (A ++ bnd z).Nodup ∧ (B ++ bnd b).Nodup), P_c_iAlpha z b A B)  : P_c_iAlpha a b A B := fnOK Try.call17 Try.func17 (let v1 := [Ob.map false kO (mO (asc A
 B)), Ob.map false kO (mO (asc B A))]; let v2 := [0, 1, 2, 3]; let v3 := (AV.sv (lb (alfs a.kids b.kids (A ++ a.params) (B ++ b.params)))); let v4 := (Ob.map false kO (mO (asc (B
 ++ b.params) (A ++ a.params)))); let v5 := (Ob.map false kO (mO (asc (A ++ a.params) (B ++ b.params)))); let v15 := (asc B A b.number); let v6 := (mO (asc B A) (Value.int
 IntKind.i64 b.number) = some (cI (v15.getD 0)) ∧ v15.isSome = true ∨ mO (asc B A) (Value.int IntKind.i64 b.number) = none ∧ cI (v15.getD 0) = cI 0 ∧ v15.isSome = false); let v14
 := (asc A B a.number); let v7 := (mO (asc A B) (Value.int IntKind.i64 a.number) = some (cI (v14.getD 0)) ∧ v14.isSome = true ∨ mO (asc A B) (Value.int IntKind.i64 a.number) = none
 ∧ cI (v14.getD 0) = cI 0 ∧ v14.isSome = false); let v8 := (Ob.map false kO (mO (asc B A))); let v9 := (Ob.map false kO (mO (asc A B))); let v10 := (AV.sv (lb false)); let v11 :=
 (Sc_iAlpha_sLc a b A B h ih); let v12 := (Sc_iAlpha_sLb a b A B h ih); let v13 := (Sc_iAlpha_sLa a b A B h ih); let v16 := (lc_iAlpha_sLc a b A B); let v17 := (lc_iAlpha_sLb a b A
 B); let v18 := (lc_iAlpha_sLa a b A B); .i (a.kind ≠ b.kind) (.y true (.y true (.y true (.f [] v1 v10)))) (.z intC a.params (.z intC b.params (.i ((↑(List.map intC
 a.params).length : Int) ≠ (↑(List.map intC b.params).length : Int)) (.y true (.y true (.f [] v1 v10))) (.c [.rd, .rd] (c_iEqData a.datum b.datum) (.b (!decide (a.datum = b.datum))
 (.y true (.f [] v1 v10)) (.z coreC a.kids (.z coreC b.kids (.i ((↑(List.map coreC a.kids).length : Int) ≠ (↑(List.map coreC b.kids).length : Int)) (.f [] v1 v10) (.i (a.kind = 2)
 (.y true (.w (.cells [cI (v14.getD 0)]) (.w (.bool v14.isSome) (.p v7 (.w (.cells [cI (v15.getD 0)]) (.w (.bool v15.isSome) (.p v6 (.i (v14.isSome ≠ v15.isSome) (.y true (.y true
 (.f [] v1 v10))) (.b v14.isSome (.i (v14.getD (0 : Int) ≠ b.number) (.y true (.y true (.f [] v1 v10))) (.i (v15.getD (0 : Int) ≠ a.number) (.y true (.f [] v1 v10)) (.b (!(asc A B
 a.number).isSome) (.i (a.number ≠ b.number) (.f [] v1 v10) (.z intC a.params (.l v18 v13 v2 [.s (li 0), .o v9, .o v8] 0 (.t (.z coreC a.kids (.l v17 v12 v2 [.s (li 0), .s (lb
 true)] 0 (.t (.z intC a.params (.l v16 v11 v2 [.s (li 0), .o v5, .o v4] 0 (.t (.f [] v1 v3) .q))) .q))) .q)))) (.y false (.z intC a.params (.l v18 v13 v2 [.s (li 0), .o v9, .o v8]
 0 (.t (.z coreC a.kids (.l v17 v12 v2 [.s (li 0), .s (lb true)] 0 (.t (.z intC a.params (.l v16 v11 v2 [.s (li 0), .o v5, .o v4] 0 (.t (.f [] v1 v3) .q))) .q))) .q))))))) (.y
 false (.b (!(asc A B a.number).isSome) (.i (a.number ≠ b.number) (.f [] v1 v10) (.z intC a.params (.l v18 v13 v2 [.s (li 0), .o v9, .o v8] 0 (.t (.z coreC a.kids (.l v17 v12 v2
 [.s (li 0), .s (lb true)] 0 (.t (.z intC a.params (.l v16 v11 v2 [.s (li 0), .o v5, .o v4] 0 (.t (.f [] v1 v3) .q))) .q))) .q)))) (.y false (.z intC a.params (.l v18 v13 v2 [.s
 (li 0), .o v9, .o v8] 0 (.t (.z coreC a.kids (.l v17 v12 v2 [.s (li 0), .s (lb true)] 0 (.t (.z intC a.params (.l v16 v11 v2 [.s (li 0), .o v5, .o v4] 0 (.t (.f [] v1 v3) .q)))
 .q))) .q))))))))))))))) (.i (a.kind = 4) (.w (.cells [cI (v14.getD 0)]) (.w (.bool v14.isSome) (.p v7 (.w (.cells [cI (v15.getD 0)]) (.w (.bool v15.isSome) (.p v6 (.i (v14.isSome
 ≠ v15.isSome) (.y true (.y true (.f [] v1 v10))) (.b v14.isSome (.i (v14.getD (0 : Int) ≠ b.number) (.y true (.y true (.f [] v1 v10))) (.i (v15.getD (0 : Int) ≠ a.number) (.y true
 (.f [] v1 v10)) (.b (!(asc A B a.number).isSome) (.i (a.number ≠ b.number) (.f [] v1 v10) (.z intC a.params (.l v18 v13 v2 [.s (li 0), .o v9, .o v8] 0 (.t (.z coreC a.kids (.l v17
 v12 v2 [.s (li 0), .s (lb true)] 0 (.t (.z intC a.params (.l v16 v11 v2 [.s (li 0), .o v5, .o v4] 0 (.t (.f [] v1 v3) .q))) .q))) .q)))) (.y false (.z intC a.params (.l v18 v13 v2
 [.s (li 0), .o v9, .o v8] 0 (.t (.z coreC a.kids (.l v17 v12 v2 [.s (li 0), .s (lb true)] 0 (.t (.z intC a.params (.l v16 v11 v2 [.s (li 0), .o v5, .o v4] 0 (.t (.f [] v1 v3)
 .q))) .q))) .q))))))) (.y false (.b (!(asc A B a.number).isSome) (.i (a.number ≠ b.number) (.f [] v1 v10) (.z intC a.params (.l v18 v13 v2 [.s (li 0), .o v9, .o v8] 0 (.t (.z
 coreC a.kids (.l v17 v12 v2 [.s (li 0), .s (lb true)] 0 (.t (.z intC a.params (.l v16 v11 v2 [.s (li 0), .o v5, .o v4] 0 (.t (.f [] v1 v3) .q))) .q))) .q)))) (.y false (.z intC
 a.params (.l v18 v13 v2 [.s (li 0), .o v9, .o v8] 0 (.t (.z coreC a.kids (.l v17 v12 v2 [.s (li 0), .s (lb true)] 0 (.t (.z intC a.params (.l v16 v11 v2 [.s (li 0), .o v5, .o v4]
 0 (.t (.f [] v1 v3) .q))) .q))) .q)))))))))))))) (.i (a.number ≠ b.number) (.f [] v1 v10) (.z intC a.params (.l v18 v13 v2 [.s (li 0), .o v9, .o v8] 0 (.t (.z coreC a.kids (.l v17
 v12 v2 [.s (li 0), .s (lb true)] 0 (.t (.z intC a.params (.l v16 v11 v2 [.s (li 0), .o v5, .o v4] 0 (.t (.f [] v1 v3) .q))) .q))) .q))))))))))))))) (by
  dsimp only [teasy, P_c_iAlpha, nthW, lc_iAlpha_sLa, lc_iAlpha_sLb, lc_iAlpha_sLc]
  have g := num_iff h.1 (nodup_left h.2.1) (nodup_left h.2.2) a.number b.number
  with_reducible repeat' (first | apply And.intro | exact zR | exact ih | (intro; skip) | apply mIc | apply mOc | apply mSc | apply mLc | apply c_iEqData)
  all_goals (try simp only [std, inj] at *)
  all_goals with_reducible repeat' apply And.intro
  all_goals (try (first | with_reducible apply c_iEqData | with_reducible apply ih | (simp only [← List.map_append]; first | with_reducible apply c_iEqData | with_reducible apply ih)))
  all_goals (try (first | exact z | exact zM | grind [alf_eq, alf0, alfs, snocI, snocS, rowSnoc])))
theorem c_iAlpha (a : Core) : ∀ (b : Core) (A : List Int) (B : List Int) (h : A.length = B.length ∧ (A ++ bnd a).Nodup ∧ (B ++ bnd b).Nodup), P_c_iAlpha a b A B := Core.ind (P := fun a => ∀ (b : Core) (A : List Int) (B : List Int) (h : A.length = B.length ∧ (A ++ bnd a).Nodup ∧ (B ++ bnd b).Nodup), P_c_iAlpha a b A B) (fun a ih b A B h => c_iAlpha_s a b A B h ih) a
abbrev P_c_iAlphaEqual (a : Core) (b : Core) : Ct := ⟨5, [], [coreA a, coreA b], [], .sv (lb (valC a && valC b && alf a b [] []))⟩
theorem c_iAlphaEqual (a b : Core) (h : wC a ≤ 90000000 ∧ wC b ≤ 90000000)  : P_c_iAlphaEqual a b := fnOK Try.call5 Try.func5 (.d [.rd] (P_c_iValid a) (.b (valC a) (.d [.rd]
 (P_c_iValid b) (.b (valC b) (.w (.mkmap kO) (.w (.mkmap kO) (.d [.rd, .rd, .map, .map] (P_c_iAlpha a b [] []) (.s (lb (alf a b [] [])))))) (.s (lb false)))) (.y false (.s (lb
 false))))) (by
  dsimp only [teasy, P_c_iAlphaEqual]
  have g : ∀ c, valC c = true → (bnd c).Nodup := fun c h => by
    simp only [valC, Bool.and_eq_true, okU_iff] at h
    exact (List.nodup_append.1 h.2.1).2.1
  with_reducible repeat' (first | apply And.intro | exact zR | (intro; skip) | apply mIc | apply mOc | apply mSc | apply mLc | apply c_iValid | apply c_iAlpha)
  all_goals (try simp only [std, inj] at *)
  all_goals with_reducible repeat' apply And.intro
  all_goals (try (first | with_reducible apply c_iValid | with_reducible apply c_iAlpha | (simp only [← List.map_append]; first | with_reducible apply c_iValid | with_reducible apply c_iAlpha)))
  all_goals (try (first | exact z | exact zM | grind [asc_nil, snocI, snocS, rowSnoc])))
end Go.Proofs.Ytgeegppaaggcjaa
end
section
namespace Go.Proofs.Ytgeegppaaggcjaa
open Go Go.Proofs.Ytgeegppaaggcjaa.Ab
set_option linter.unusedVariables false
set_option linter.unusedSimpArgs false
set_option maxHeartbeats 4000000
mutual
/-- other numbers for the variables -/
def ren (f : Int → Option Int) : Core → Core
  | ⟨k, n, p, d, l⟩ => ⟨k, if k = 2 ∨ k = 4 then (f n).getD n else n, p.map fun x => (f x).getD x, d, rens f l⟩
def rens (f : Int → Option Int) : List Core → List Core
  | [] => []
  | x :: r => ren f x :: rens f r
end
theorem rens_eq (f : Int → Option Int) : ∀ l, rens f l = l.map (ren f)
  | [] => by rw [rens]; rfl
  | x :: r => by rw [rens, rens_eq f r]; rfl
def rnN (f : Int → Option Int) (c : Core) : Int := if c.kind = 2 ∨ c.kind = 4 then (f c.number).getD c.number else c.number
def rnP (f : Int → Option Int) (x : Int) : Int := (f x).getD x
theorem ren_eq (f : Int → Option Int) (c : Core) : ren f c = ⟨c.kind, rnN f c, c.params.map (rnP f), c.datum, c.kids.map (ren f)⟩ := by cases c; simp only [ren, rens_eq, rnN]; rfl
def mapTo {α : Type} (g : α → α) (L : List α) (k : Nat) : List α := (L.take k).map g ++ L.drop k
theorem mapTo_zero {α : Type} (g : α → α) (L : List α) : mapTo g L 0 = L := by simp [mapTo]
theorem mapTo_all {α : Type} (g : α → α) (L : List α) {k : Nat} (h : L.length ≤ k) : mapTo g L k = L.map g := by simp [mapTo, List.take_of_length_le h, List.drop_eq_nil_of_le h]
theorem mapTo_len {α : Type} (g : α → α) (L : List α) (k : Nat) : (mapTo g L k).length = L.length := by simp [mapTo]; omega
theorem mapTo_get {g : Int → Int} {L : List Int} {k : Nat} (h : k < L.length) : (mapTo g L k).getD k 0 = L.getD k 0 := by
  unfold mapTo
  rw [List.getD_eq_getElem?_getD, List.getElem?_append_right (by simp; omega)]
  have : k - ((L.take k).map g).length = 0 := by simp; omega
  rw [this]; simp [List.getElem?_drop]
theorem mapTo_set {α : Type} [Inhabited α] {g : α → α} {L : List α} {k : Nat} (h : k < L.length) : (mapTo g L k).set k (g (L.getD k default)) = mapTo g L (k + 1) := by
  unfold mapTo
  rw [take_get h, drop_get h, List.set_append_right _ _ (by simp; omega)]
  have : k - ((L.take k).map g).length = 0 := by simp; omega
  rw [this]; simp
theorem mapTo_same {g : Int → Int} {L : List Int} {k : Nat} (h : k < L.length) (e : g (L.getD k 0) = L.getD k 0) : mapTo g L (k + 1) = mapTo g L k := by
  rw [← mapTo_set h]
  have e' : g (L.getD k default) = (mapTo g L k).getD k 0 := by rw [mapTo_get h]; exact e
  rw [e']
  apply List.ext_getElem?
  intro i
  rw [List.getElem?_set]
  split
  · rename_i e2; subst e2; split
    · rename_i h2; simp [h2]
    · rename_i h2; rw [mapTo_len] at h2; exact absurd h h2
  · rfl
theorem setI {L : List Int} {k : Nat} {x : Int} : (L.map intC).set k [cI x] = (L.set k x).map intC := by rw [List.map_set]; rfl
theorem setC {L : List Core} {k : Nat} {x : Core} : (L.map coreC).set k (coreF x) = (L.set k x).map coreC := by rw [List.map_set, coreC_eq]
def fT (F T : List Int) (n : Int) : Option Int := if 0 ≤ lookL F n then some (T.getD (lookL F n).toNat 0) else none
abbrev P_c_sRen (c : Core) (F : List Int) (T : List Int) : Ct := ⟨33, [], [coreA c, ll (F.map intC), ll (T.map intC)], coreO (ren (fT F T) c), .sv (coreR (ren (fT F T) c) 0)⟩
def lc_sRen_sLb (c : Core) (F : List Int) (T : List Int) : Lp Nat := .mk 73 0 (fun x => [(1, ll (List.map intC F)), (2, ll (List.map intC T)), (3, SV.one (AC.ptr 0 0)), (6, SV.one
 (AC.ptr 1 0)), (7, SV.one (AC.ptr 2 0)), (55, li (↑(List.map coreC c.kids).length : Int)), (56, hs x 0)]) (fun x => [Ob.box (vals (coreF c)), Ob.box [vI 0, vI 0, AC.val (Cell.lit
 (Value.slice none 0 0)), vI 0, vI 0, vS (ByteArray.mk #[]), AC.val (Cell.lit (Value.slice none 0 0)), AC.val (Cell.lit (Value.slice none 0 0))], Ob.box [vI c.kind, ha x 1, AC.ref
 3, vI c.datum.kind, vI c.datum.number, vS c.datum.text, AC.ref 4, AC.ref 5], Ob.arr true 1 (List.map intC (List.map (rnP (fT F T)) c.params)), Ob.arr true 4 (List.map datumC
 c.datum.items), ho x 2]) (fun k => [.s (li (↑k : Int)), .a (vI (rnN (fT F T) c)), .o (Ob.arr true 8 (List.map coreC (mapTo (ren (fT F T)) c.kids k)))]) (fun k => k ≤ c.kids.length
 ∧ c.kids.length ≤ 9223372036854775807) (fun k => c.kids.length - k) [.mk True (.exit 2) (fun x => [(6, SV.one (AC.ptr 0 0)), (7, SV.one (AC.ptr 1 0))]) (fun x => [Ob.box [vI 0, vI
 0, AC.val (Cell.lit (Value.slice none 0 0)), vI 0, vI 0, vS (ByteArray.mk #[]), AC.val (Cell.lit (Value.slice none 0 0)), AC.val (Cell.lit (Value.slice none 0 0))], Ob.box [vI
 c.kind, ha x 0, AC.ref 2, vI c.datum.kind, vI c.datum.number, vS c.datum.text, AC.ref 3, AC.ref 4], Ob.arr true 1 (List.map intC (List.map (rnP (fT F T)) c.params)), Ob.arr true 4
 (List.map datumC c.datum.items), ho x 1]) [.a (vI (rnN (fT F T) c)), .o (Ob.arr true 8 (List.map coreC (List.map (ren (fT F T)) c.kids)))]]
def lc_sRen_sLa (c : Core) (F : List Int) (T : List Int) : Lp Nat := .mk 73 0 (fun x => [(1, ll (List.map intC F)), (2, ll (List.map intC T)), (3, SV.one (AC.ptr 0 0)), (6, SV.one
 (AC.ptr 1 0)), (7, SV.one (AC.ptr 2 0)), (31, li (↑(List.map intC c.params).length : Int)), (32, hs x 0)]) (fun x => [Ob.box (vals (coreF c)), Ob.box [vI 0, vI 0, AC.val (Cell.lit
 (Value.slice none 0 0)), vI 0, vI 0, vS (ByteArray.mk #[]), AC.val (Cell.lit (Value.slice none 0 0)), AC.val (Cell.lit (Value.slice none 0 0))], Ob.box [vI c.kind, ha x 1, AC.ref
 3, vI c.datum.kind, vI c.datum.number, vS c.datum.text, AC.ref 4, AC.ref 5], ho x 2, Ob.arr true 4 (List.map datumC c.datum.items), Ob.arr true 8 (List.map coreC c.kids)]) (fun k
 => [.s (li (↑k : Int)), .a (vI (rnN (fT F T) c)), .o (Ob.arr true 1 (List.map intC (mapTo (rnP (fT F T)) c.params k)))]) (fun k => k ≤ c.params.length ∧ c.params.length ≤
 9223372036854775807) (fun k => c.params.length - k) [.mk True (.exit 0) (fun x => [(1, ll (List.map intC F)), (2, ll (List.map intC T)), (3, SV.one (AC.ptr 0 0)), (6, SV.one
 (AC.ptr 1 0)), (7, SV.one (AC.ptr 2 0))]) (fun x => [Ob.box (vals (coreF c)), Ob.box [vI 0, vI 0, AC.val (Cell.lit (Value.slice none 0 0)), vI 0, vI 0, vS (ByteArray.mk #[]),
 AC.val (Cell.lit (Value.slice none 0 0)), AC.val (Cell.lit (Value.slice none 0 0))], Ob.box [vI c.kind, ha x 0, AC.ref 3, vI c.datum.kind, vI c.datum.number, vS c.datum.text,
 AC.ref 4, AC.ref 5], ho x 1, Ob.arr true 4 (List.map datumC c.datum.items), Ob.arr true 8 (List.map coreC c.kids)]) [.a (vI (rnN (fT F T) c)), .o (Ob.arr true 1 (List.map intC
 (List.map (rnP (fT F T)) c.params)))]]
theorem Sc_sRen_sLb (c : Core) (F : List Int) (T : List Int) (h : wC c ≤ 1048576 ∧ F.length = T.length) (ih : ∀ (z : Core), z ∈ c.kids → ∀ (F T : List Int), wC z ≤ 1048576 ∧
 F.length = T.length → OK (P_c_sRen z F T)) : Lp.Sem Try.prog (loopAt Try.f33 1) (lc_sRen_sLb c F T) := lpOK (fun k => .i ((↑k : Int) < (↑(List.map coreC c.kids).length : Int)) (.w
 (.draw [(12, [6, 7, 8, 5])]) (.x (↑k : Int) (List.map coreC c.kids) (coreF (c.kids.getD k default)) (.d [.rd, .rd, .rd] (P_c_sRen (c.kids.getD k default) F T) (.p (0 ≤ (↑k : Int)
 ∧ (↑k : Int).toNat < (List.map coreC (mapTo (ren (fT F T)) c.kids k)).length) (.w (.cells (coreF ((mapTo (ren (fT F T)) c.kids k).getD (↑k : Int).toNat default))) (.p ((List.map
 coreC (mapTo (ren (fT F T)) c.kids k))[(↑k : Int).toNat]? = some (coreF ((mapTo (ren (fT F T)) c.kids k).getD (↑k : Int).toNat default))) (.r ((↑k : Int) + 1) (.g [0, 1, 2, 3, 4,
 5] (k + 1) [.s (li ((↑k : Int) + 1)), .a (vI (rnN (fT F T) c)), .o (Ob.arr true 8 ((List.map coreC (mapTo (ren (fT F T)) c.kids k)).set (↑k : Int).toNat (coreF (ren (fT F T)
 (c.kids.getD k default)))))])))))))) (.o 0 [1, 2, 3, 4, 5] [.a (vI (rnN (fT F T) c)), .o (Ob.arr true 8 (List.map coreC (mapTo (ren (fT F T)) c.kids k)))])) (by
  intro k h; try dsimp only [teasy, nthW, lc_sRen_sLb] at h ⊢
  have g1 := wC_eq c
  have g2 := @sumBy_mem _ wC c.kids (c.kids.getD k default)
  have g3 := @mapTo_set _ _ (ren (fT F T)) c.kids k
  have g5 := @mapTo_all _ (ren (fT F T)) c.kids k
  have g6 := mapTo_len (ren (fT F T)) c.kids k
  with_reducible repeat' (first | apply And.intro | exact zR | exact ih | (intro; skip) | apply c_sCopyC | apply ih)
  all_goals (try simp only [std, inj] at *)
  all_goals with_reducible repeat' apply And.intro
  all_goals (try (first | with_reducible apply c_sCopyC | with_reducible apply ih | (simp only [← List.map_append]; first | with_reducible apply c_sCopyC | with_reducible apply ih)))
  all_goals (try (first | exact z | grind [getD_mem', setC, snocI, snocS, rowSnoc])))
theorem Sc_sRen_sLa (c : Core) (F : List Int) (T : List Int) (h : wC c ≤ 1048576 ∧ F.length = T.length) (ih : ∀ (z : Core), z ∈ c.kids → ∀ (F T : List Int), wC z ≤ 1048576 ∧
 F.length = T.length → OK (P_c_sRen z F T)) : Lp.Sem Try.prog (loopAt Try.f33 0) (lc_sRen_sLa c F T) := lpOK (fun k => .i ((↑k : Int) < (↑(List.map intC c.params).length : Int))
 (.p (0 ≤ (↑k : Int) ∧ (↑k : Int).toNat < (List.map intC (mapTo (rnP (fT F T)) c.params k)).length) (.w (.cells (intC ((mapTo (rnP (fT F T)) c.params k).getD (↑k : Int).toNat
 default))) (.p ((List.map intC (mapTo (rnP (fT F T)) c.params k))[(↑k : Int).toNat]? = some [cI ((mapTo (rnP (fT F T)) c.params k).getD (↑k : Int).toNat 0)]) (.c [.rd, .rd]
 (c_sLook F ((mapTo (rnP (fT F T)) c.params k).getD (↑k : Int).toNat 0)) (.i (0 ≤ lookL F ((mapTo (rnP (fT F T)) c.params k).getD (↑k : Int).toNat 0)) (.w (.draw [(8, [3])]) (.x
 (lookL F ((mapTo (rnP (fT F T)) c.params k).getD (↑k : Int).toNat 0)) (List.map intC T) [cI (T.getD (lookL F ((mapTo (rnP (fT F T)) c.params k).getD (↑k : Int).toNat 0)).toNat 0)]
 (.p (0 ≤ (↑k : Int) ∧ (↑k : Int).toNat < (List.map intC (mapTo (rnP (fT F T)) c.params k)).length) (.w (.cells (intC ((mapTo (rnP (fT F T)) c.params k).getD (↑k : Int).toNat
 default))) (.p ((List.map intC (mapTo (rnP (fT F T)) c.params k))[(↑k : Int).toNat]? = some [cI ((mapTo (rnP (fT F T)) c.params k).getD (↑k : Int).toNat 0)]) (.r ((↑k : Int) + 1)
 (.g [0, 1, 2, 3, 4, 5] (k + 1) [.s (li ((↑k : Int) + 1)), .a (vI (rnN (fT F T) c)), .o (Ob.arr true 1 ((List.map intC (mapTo (rnP (fT F T)) c.params k)).set (↑k : Int).toNat [cI
 (T.getD (lookL F ((mapTo (rnP (fT F T)) c.params k).getD (↑k : Int).toNat 0)).toNat 0)]))]))))))) (.r ((↑k : Int) + 1) (.g [0, 1, 2, 3, 4, 5] (k + 1) [.s (li ((↑k : Int) + 1)), .a
 (vI (rnN (fT F T) c)), .o (Ob.arr true 1 (List.map intC (mapTo (rnP (fT F T)) c.params k)))]))))))) (.o 0 [0, 1, 2, 3, 4, 5] [.a (vI (rnN (fT F T) c)), .o (Ob.arr true 1 (List.map
 intC (mapTo (rnP (fT F T)) c.params k)))])) (by
  intro k h; try dsimp only [teasy, nthW, lc_sRen_sLa] at h ⊢
  have g1 := lookL_lt F (c.params.getD k 0)
  have g2 := @mapTo_get (rnP (fT F T)) c.params k
  have g3 := @mapTo_set _ _ (rnP (fT F T)) c.params k
  have g4 := @mapTo_same (rnP (fT F T)) c.params k
  have g5 := @mapTo_all _ (rnP (fT F T)) c.params k
  have g6 := mapTo_len (rnP (fT F T)) c.params k
  have g7 : rnP (fT F T) (c.params.getD k 0) = if 0 ≤ lookL F (c.params.getD k 0) then T.getD (lookL F (c.params.getD k 0)).toNat 0 else c.params.getD k 0 := by unfold rnP fT; split <;> rfl
  with_reducible repeat' (first | apply And.intro | exact zR | exact ih | (intro; skip) | apply c_sCopyC)
  all_goals (try simp only [std, inj] at *)
  all_goals with_reducible repeat' apply And.intro
  all_goals (try (first | with_reducible apply c_sCopyC | with_reducible apply ih | (simp only [← List.map_append]; first | with_reducible apply c_sCopyC | with_reducible apply ih)))
  all_goals (try (first | exact z | grind [setI, snocI, snocS, rowSnoc])))
theorem c_sRen_s (c : Core) (F T : List Int) (h : wC c ≤ 1048576 ∧ F.length = T.length) (ih : ∀ z ∈ c.kids, ∀ (F : List Int) (T : List Int) (h : wC z ≤ 1048576 ∧ F.length =
 T.length), P_c_sRen z F T)  : P_c_sRen c F T := fnOK Try.call33 Try.func33 (.d [.rd] (P_c_sCopyC c) (.c [.rd, .rd] (c_sLook F c.number) (.i (0 ≤ lookL F c.number) (.c [.rd]
 (c_l5Names c) (.i (c.kind = 2 ∨ c.kind = 4) (.x (lookL F c.number) (List.map intC T) [cI (T.getD (lookL F c.number).toNat 0)] (.z intC c.params (.l (lc_sRen_sLa c F T)
 (Sc_sRen_sLa c F T h ih) [0, 1, 5, 2, 3, 4] [.s (li 0), .a (vI (T.getD (lookL F c.number).toNat 0)), .o (Ob.arr true 1 (List.map intC c.params))] 0 (.t (.z coreC c.kids (.l
 (lc_sRen_sLb c F T) (Sc_sRen_sLb c F T h ih) [0, 1, 2, 3, 4, 5] [.s (li 0), .a (vI (rnN (fT F T) c)), .o (Ob.arr true 8 (List.map coreC c.kids))] 0 (.t (.f [2, 3, 4] [Ob.arr true
 1 (List.map intC (List.map (rnP (fT F T)) c.params)), Ob.arr true 4 (List.map datumC c.datum.items), Ob.arr true 8 (List.map coreC (List.map (ren (fT F T)) c.kids))] (AV.sv
 (SV.agg [vI c.kind, vI (rnN (fT F T) c), AC.ref 0, vI c.datum.kind, vI c.datum.number, vS c.datum.text, AC.ref 1, AC.ref 2]))) .q))) .q)))) (.z intC c.params (.l (lc_sRen_sLa c F
 T) (Sc_sRen_sLa c F T h ih) [0, 1, 5, 2, 3, 4] [.s (li 0), .a (vI c.number), .o (Ob.arr true 1 (List.map intC c.params))] 0 (.t (.z coreC c.kids (.l (lc_sRen_sLb c F T)
 (Sc_sRen_sLb c F T h ih) [0, 1, 2, 3, 4, 5] [.s (li 0), .a (vI (rnN (fT F T) c)), .o (Ob.arr true 8 (List.map coreC c.kids))] 0 (.t (.f [2, 3, 4] [Ob.arr true 1 (List.map intC
 (List.map (rnP (fT F T)) c.params)), Ob.arr true 4 (List.map datumC c.datum.items), Ob.arr true 8 (List.map coreC (List.map (ren (fT F T)) c.kids))] (AV.sv (SV.agg [vI c.kind, vI
 (rnN (fT F T) c), AC.ref 0, vI c.datum.kind, vI c.datum.number, vS c.datum.text, AC.ref 1, AC.ref 2]))) .q))) .q))))) (.y false (.z intC c.params (.l (lc_sRen_sLa c F T)
 (Sc_sRen_sLa c F T h ih) [0, 1, 5, 2, 3, 4] [.s (li 0), .a (vI c.number), .o (Ob.arr true 1 (List.map intC c.params))] 0 (.t (.z coreC c.kids (.l (lc_sRen_sLb c F T) (Sc_sRen_sLb
 c F T h ih) [0, 1, 2, 3, 4, 5] [.s (li 0), .a (vI (rnN (fT F T) c)), .o (Ob.arr true 8 (List.map coreC c.kids))] 0 (.t (.f [2, 3, 4] [Ob.arr true 1 (List.map intC (List.map (rnP
 (fT F T)) c.params)), Ob.arr true 4 (List.map datumC c.datum.items), Ob.arr true 8 (List.map coreC (List.map (ren (fT F T)) c.kids))] (AV.sv (SV.agg [vI c.kind, vI (rnN (fT F T)
 c), AC.ref 0, vI c.datum.kind, vI c.datum.number, vS c.datum.text, AC.ref 1, AC.ref 2]))) .q))) .q))))))) (by
  dsimp only [teasy, P_c_sRen, nthW, lc_sRen_sLa, lc_sRen_sLb]
  have g1 := lookL_lt F c.number
  with_reducible repeat' (first | apply And.intro | exact zR | exact ih | (intro; skip) | apply c_sCopyC)
  all_goals (try simp only [std, inj] at *)
  all_goals with_reducible repeat' apply And.intro
  all_goals (try (first | with_reducible apply c_sCopyC | with_reducible apply ih | (simp only [← List.map_append]; first | with_reducible apply c_sCopyC | with_reducible apply ih)))
  all_goals (try (first | exact z | grind [ren_eq, rnN, fT, mapTo_zero, snocI, snocS, rowSnoc])))
theorem c_sRen (c : Core) : ∀ (F : List Int) (T : List Int) (h : wC c ≤ 1048576 ∧ F.length = T.length), P_c_sRen c F T := Core.ind (P := fun c => ∀ (F : List Int) (T : List Int) (h : wC c ≤ 1048576 ∧ F.length = T.length), P_c_sRen c F T) (fun c ih F T h => c_sRen_s c F T h ih) c
def upTo (a : Int) (k : Nat) : List Int := (List.range k).map fun (i : Nat) => a + (i : Int)
theorem upTo_snoc (a : Int) (k : Nat) : upTo a (k + 1) = upTo a k ++ [a + (k : Int)] := by simp [upTo, List.range_succ]
theorem upTo_len (a : Int) (k : Nat) : (upTo a k).length = k := by simp [upTo]
theorem upTo_get (a : Int) {k i : Nat} (h : i < k) : (upTo a k).getD i 0 = a + (i : Int) := by simp [upTo, h]
def fR (a : Int) (F : List Int) (n : Int) : Option Int := if 0 ≤ lookL F n then some (a + lookL F n) else none
theorem fT_upTo (a : Int) (F : List Int) : fT F (upTo a F.length) = fR a F := by
  funext n
  have h := lookL_lt F n
  unfold fT fR
  by_cases h0 : 0 ≤ lookL F n
  · rw [if_pos h0, if_pos h0, upTo_get a (by omega)]
    have : ((lookL F n).toNat : Int) = lookL F n := by omega
    rw [this]
  · rw [if_neg h0, if_neg h0]
def rnOK (c : Core) (a : Int) : Bool := valC c && decide (0 ≤ a ∧ a ≤ 99999)
def rnFree (c : Core) (a : Int) : Bool := (fre c [] []).all fun n => decide (n < a)
def rnFit (c : Core) (a : Int) : Bool := decide (a + ((bnd c).length : Int) ≤ 99999)
def rnC (c : Core) (a : Int) : Core := if rnOK c a = true ∧ rnFree c a = true ∧ rnFit c a = true then ren (fR a (bnd c)) c else c
def rnF (c : Core) (a : Int) : Int := if rnOK c a = true ∧ rnFree c a = true ∧ rnFit c a = true then a + ((bnd c).length : Int) else a
theorem rn_yes {c : Core} {a : Int} (h1 : rnOK c a = true) (h2 : rnFree c a = true) (h3 : rnFit c a = true) : rnC c a = ren (fR a (bnd c)) c ∧ rnF c a = a + ((bnd c).length : Int) := by
  unfold rnC rnF; rw [if_pos ⟨h1, h2, h3⟩, if_pos ⟨h1, h2, h3⟩]; exact ⟨rfl, rfl⟩
theorem rn_no {c : Core} {a : Int} (h : (rnOK c a && rnFree c a && rnFit c a) = false) : rnC c a = c ∧ rnF c a = a := by
  have : ¬ (rnOK c a = true ∧ rnFree c a = true ∧ rnFit c a = true) := by
    rintro ⟨h1, h2, h3⟩; rw [h1, h2, h3] at h; cases h
  unfold rnC rnF; rw [if_neg this, if_neg this]; exact ⟨rfl, rfl⟩
theorem rnFree_no {c : Core} {a : Int} {k : Nat} (h : k < (fre c [] []).length) (e : a ≤ (fre c [] []).getD k 0) : rnFree c a = false := by
  unfold rnFree; rw [List.all_eq_false]
  exact ⟨(fre c [] []).getD k 0, getD_mem' h, by rw [decide_eq_false (Int.not_lt.2 e)]; decide⟩
theorem upTo_nil (a : Int) : upTo a 0 = [] := rfl
abbrev P_c_sRenum (c : Core) (a : Int) : Ct := ⟨14, [], [coreA c, li a], coreO (rnC c a), .tup [coreR (rnC c a) 0, li (rnF c a)]⟩
def lc_sRenumLb (c : Core) (a : Int) : Lp Nat := .mk 67 0 (fun x => [(1, li a), (2, SV.one (AC.ptr 0 0)), (4, SV.one (AC.ptr 1 0)), (6, SV.one (AC.ref 2)), (7, SV.one (AC.ref 3)),
 (38, SV.one (AC.ref 4)), (39, li (↑(List.map intC (fre c [] [])).length : Int)), (40, hs x 0)]) (fun x => [Ob.box (vals (coreF c)), Ob.box [vI 0, vI 0, AC.val (Cell.lit
 (Value.slice none 0 0)), vI 0, vI 0, vS (ByteArray.mk #[]), AC.val (Cell.lit (Value.slice none 0 0)), AC.val (Cell.lit (Value.slice none 0 0))], Ob.arr true 1 (List.map intC (bnd
 c)), Ob.arr true 1 (List.map intC (upTo a (bnd c).length)), Ob.arr true 1 (List.map intC (fre c [] []))]) (fun k => [.s (li (↑k : Int))]) (fun k => k ≤ (fre c [] []).length ∧ (fre
 c [] []).length ≤ 9223372036854775807 ∧ ((List.take k (fre c [] [])).all fun n => decide (n < a)) = true) (fun k => (fre c [] []).length - k) [.mk (rnFree c a = true) (.exit 2)
 (fun x => [(1, li a), (2, SV.one (AC.ptr 0 0)), (4, SV.one (AC.ptr 1 0)), (6, SV.one (AC.ref 2)), (7, SV.one (AC.ref 3))]) (fun x => [Ob.box (vals (coreF c)), Ob.box [vI 0, vI 0,
 AC.val (Cell.lit (Value.slice none 0 0)), vI 0, vI 0, vS (ByteArray.mk #[]), AC.val (Cell.lit (Value.slice none 0 0)), AC.val (Cell.lit (Value.slice none 0 0))], Ob.arr true 1
 (List.map intC (bnd c)), Ob.arr true 1 (List.map intC (upTo a (bnd c).length))]) [], .mk (rnFree c a = false) .ret (fun x => [(4, SV.one (AC.ptr 0 0)), (5, hs x 8)]) (fun x =>
 [Ob.box [ha x 0, ha x 1, AC.ref 1, ha x 3, ha x 4, ha x 5, AC.ref 2, AC.ref 3], ho x 2, ho x 6, ho x 7]) [.a (vI c.kind), .a (vI c.number), .o (Ob.arr true 1 (List.map intC
 c.params)), .a (vI c.datum.kind), .a (vI c.datum.number), .a (vS c.datum.text), .o (Ob.arr true 4 (List.map datumC c.datum.items)), .o (Ob.arr true 8 (List.map coreC c.kids)), .s
 (li a)]]
def lc_sRenumLa (c : Core) (a : Int) : Lp Nat := .mk 67 0 (fun x => [(1, li a), (2, SV.one (AC.ptr 0 0)), (4, SV.one (AC.ptr 1 0)), (6, SV.one (AC.ref 2)), (7, SV.one (AC.ref 3)),
 (26, li (↑(List.map intC (bnd c)).length : Int)), (27, hs x 0)]) (fun x => [Ob.box (vals (coreF c)), Ob.box [vI 0, vI 0, AC.val (Cell.lit (Value.slice none 0 0)), vI 0, vI 0, vS
 (ByteArray.mk #[]), AC.val (Cell.lit (Value.slice none 0 0)), AC.val (Cell.lit (Value.slice none 0 0))], Ob.arr true 1 (List.map intC (bnd c)), ho x 1]) (fun k => [.s (li (↑k :
 Int)), .o (Ob.arr true 1 (List.map intC (upTo a k)))]) (fun k => k ≤ (bnd c).length ∧ (bnd c).length ≤ 1048576 ∧ 0 ≤ a ∧ a ≤ 99999) (fun k => (bnd c).length - k) [.mk True (.exit
 0) (fun x => [(1, li a), (2, SV.one (AC.ptr 0 0)), (4, SV.one (AC.ptr 1 0)), (6, SV.one (AC.ref 2)), (7, SV.one (AC.ref 3))]) (fun x => [Ob.box (vals (coreF c)), Ob.box [vI 0, vI
 0, AC.val (Cell.lit (Value.slice none 0 0)), vI 0, vI 0, vS (ByteArray.mk #[]), AC.val (Cell.lit (Value.slice none 0 0)), AC.val (Cell.lit (Value.slice none 0 0))], Ob.arr true 1
 (List.map intC (bnd c)), ho x 0]) [.o (Ob.arr true 1 (List.map intC (upTo a (bnd c).length)))]]
theorem Sc_sRenumLb (c : Core) (a : Int) (h : wC c ≤ 1048576) : Lp.Sem Try.prog (loopAt Try.f14 1) (lc_sRenumLb c a) := lpOK (fun k => .i ((↑k : Int) < (↑(List.map intC (fre c []
 [])).length : Int)) (.p (0 ≤ (↑k : Int) ∧ (↑k : Int).toNat < (List.map intC (fre c [] [])).length) (.w (.cells (intC ((fre c [] []).getD (↑k : Int).toNat default))) (.p ((List.map
 intC (fre c [] []))[(↑k : Int).toNat]? = some [cI ((fre c [] []).getD (↑k : Int).toNat 0)]) (.i (a ≤ (fre c [] []).getD (↑k : Int).toNat 0) (.d [.rd] (P_c_sCopyC c) (.o 1 [1, 5,
 6, 7] [.a (vI c.kind), .a (vI c.number), .o (Ob.arr true 1 (List.map intC c.params)), .a (vI c.datum.kind), .a (vI c.datum.number), .a (vS c.datum.text), .o (Ob.arr true 4
 (List.map datumC c.datum.items)), .o (Ob.arr true 8 (List.map coreC c.kids)), .s (li a)])) (.r ((↑k : Int) + 1) (.g [0, 1, 2, 3, 4] (k + 1) [.s (li ((↑k : Int) + 1))])))))) (.o 0
 [0, 1, 2, 3] [])) (by
  intro k h; try dsimp only [teasy, nthW, lc_sRenumLb] at h ⊢
  have g := @rnFree_no c a k
  with_reducible repeat' (first | apply And.intro | exact zR | (intro; skip) | apply c_sValid | apply c_sCopyC | apply c_sBound | apply c_sFree | apply c_sRen)
  all_goals (try simp only [std, inj] at *)
  all_goals with_reducible repeat' apply And.intro
  all_goals (try (first | with_reducible apply c_sValid | with_reducible apply c_sCopyC | with_reducible apply c_sBound | with_reducible apply c_sFree | with_reducible apply c_sRen | (simp only [← List.map_append]; first | with_reducible apply c_sValid | with_reducible apply c_sCopyC | with_reducible apply c_sBound | with_reducible apply c_sFree | with_reducible apply c_sRen)))
  all_goals (try (first | exact z | grind [take_get, rnFree, snocI, snocS, rowSnoc])))
theorem Sc_sRenumLa (c : Core) (a : Int) (h : wC c ≤ 1048576) : Lp.Sem Try.prog (loopAt Try.f14 0) (lc_sRenumLa c a) := lpOK (fun k => .i ((↑k : Int) < (↑(List.map intC (bnd
 c)).length : Int)) (.r (a + (↑k : Int)) (.p (((List.map intC (upTo a k)).length + 1) * 8 ≤ 140737488355328) (.r ((↑k : Int) + 1) (.g [0, 1, 2, 5] (k + 1) [.s (li ((↑k : Int) +
 1)), .o (Ob.arr true 1 (List.map intC (upTo a k) ++ [[cI (a + (↑k : Int))]]))])))) (.o 0 [0, 1, 2, 3] [.o (Ob.arr true 1 (List.map intC (upTo a k)))])) (by
  intro k h; try dsimp only [teasy, nthW, lc_sRenumLa] at h ⊢
  have g := upTo_len a k
  with_reducible repeat' (first | apply And.intro | exact zR | (intro; skip) | apply c_sValid | apply c_sCopyC | apply c_sBound | apply c_sFree | apply c_sRen)
  all_goals (try simp only [std, inj] at *)
  all_goals with_reducible repeat' apply And.intro
  all_goals (try (first | with_reducible apply c_sValid | with_reducible apply c_sCopyC | with_reducible apply c_sBound | with_reducible apply c_sFree | with_reducible apply c_sRen | (simp only [← List.map_append]; first | with_reducible apply c_sValid | with_reducible apply c_sCopyC | with_reducible apply c_sBound | with_reducible apply c_sFree | with_reducible apply c_sRen)))
  all_goals (try (first | exact z | grind [upTo_snoc, snocI, snocS, rowSnoc])))
theorem c_sRenum (c : Core) (a : Int) (h : wC c ≤ 1048576)  : P_c_sRenum c a := fnOK Try.call14 Try.func14 (.d [.rd] (P_c_sValid c) (.b (!valC c) (.y true (.d [.rd] (P_c_sCopyC c)
 (.f [2, 3, 4] [Ob.arr true 1 (List.map intC c.params), Ob.arr true 4 (List.map datumC c.datum.items), Ob.arr true 8 (List.map coreC c.kids)] (AV.tup [SV.agg [vI c.kind, vI
 c.number, AC.ref 0, vI c.datum.kind, vI c.datum.number, vS c.datum.text, AC.ref 1, AC.ref 2], li a])))) (.c [.rd, .rd, .rd] (c_l1In a 0 99999) (.b (!decide (0 ≤ a ∧ a ≤ 99999))
 (.d [.rd] (P_c_sCopyC c) (.f [2, 3, 4] [Ob.arr true 1 (List.map intC c.params), Ob.arr true 4 (List.map datumC c.datum.items), Ob.arr true 8 (List.map coreC c.kids)] (AV.tup
 [SV.agg [vI c.kind, vI c.number, AC.ref 0, vI c.datum.kind, vI c.datum.number, vS c.datum.text, AC.ref 1, AC.ref 2], li a]))) (.d [.rd, .own true 1] (P_c_sBound c []) (.w (.bool
 false) (.z intC (bnd c) (.l (lc_sRenumLa c a) (Sc_sRenumLa c a h) [0, 1, 3, 4] [.s (li 0), .o (Ob.arr true 1 [])] 0 (.t (.d [.rd] (P_c_sFree c) (.z intC (fre c [] []) (.l
 (lc_sRenumLb c a) (Sc_sRenumLb c a h) [0, 1, 2, 3, 4] [.s (li 0)] 0 (.t (.z intC (bnd c) (.r (a + (↑(List.map intC (bnd c)).length : Int)) (.i (99999 < a + (↑(List.map intC (bnd
 c)).length : Int)) (.d [.rd] (P_c_sCopyC c) (.f [4, 5, 6] [Ob.arr true 1 (List.map intC c.params), Ob.arr true 4 (List.map datumC c.datum.items), Ob.arr true 8 (List.map coreC
 c.kids)] (AV.tup [SV.agg [vI c.kind, vI c.number, AC.ref 0, vI c.datum.kind, vI c.datum.number, vS c.datum.text, AC.ref 1, AC.ref 2], li a]))) (.d [.rd, .rd, .rd] (P_c_sRen c (bnd
 c) (upTo a (bnd c).length)) (.z intC (bnd c) (.r (a + (↑(List.map intC (bnd c)).length : Int)) (.f [4, 5, 6] [Ob.arr true 1 (List.map intC (ren (fT (bnd c) (upTo a (bnd
 c).length)) c).params), Ob.arr true 4 (List.map datumC (ren (fT (bnd c) (upTo a (bnd c).length)) c).datum.items), Ob.arr true 8 (List.map coreC (ren (fT (bnd c) (upTo a (bnd
 c).length)) c).kids)] (AV.tup [SV.agg [vI (ren (fT (bnd c) (upTo a (bnd c).length)) c).kind, vI (ren (fT (bnd c) (upTo a (bnd c).length)) c).number, AC.ref 0, vI (ren (fT (bnd c)
 (upTo a (bnd c).length)) c).datum.kind, vI (ren (fT (bnd c) (upTo a (bnd c).length)) c).datum.number, vS (ren (fT (bnd c) (upTo a (bnd c).length)) c).datum.text, AC.ref 1, AC.ref
 2], li (a + (↑(List.map intC (bnd c)).length : Int))])))))))) (.t (.f [1, 2, 3] [Ob.arr true 1 (List.map intC c.params), Ob.arr true 4 (List.map datumC c.datum.items), Ob.arr true
 8 (List.map coreC c.kids)] (AV.tup [SV.agg [vI c.kind, vI c.number, AC.ref 0, vI c.datum.kind, vI c.datum.number, vS c.datum.text, AC.ref 1, AC.ref 2], li a])) .q))))) .q)))))))))
 (by
  dsimp only [teasy, P_c_sRenum, nthW, lc_sRenumLa, lc_sRenumLb]
  have g1 := bnd_le c
  have g2 := fre_len c [] []
  have g3 := fT_upTo a (bnd c)
  have g4 := upTo_len a (bnd c).length
  have g5 := @rn_yes c a
  have g6 := @rn_no c a
  with_reducible repeat' (first | apply And.intro | exact zR | (intro; skip) | apply c_sValid | apply c_sCopyC | apply c_sBound | apply c_sFree | apply c_sRen)
  all_goals (try simp only [std, inj] at *)
  all_goals with_reducible repeat' apply And.intro
  all_goals (try (first | with_reducible apply c_sValid | with_reducible apply c_sCopyC | with_reducible apply c_sBound | with_reducible apply c_sFree | with_reducible apply c_sRen | (simp only [← List.map_append]; first | with_reducible apply c_sValid | with_reducible apply c_sCopyC | with_reducible apply c_sBound | with_reducible apply c_sFree | with_reducible apply c_sRen)))
  all_goals (try (first | exact z | grind [rnOK, rnFit, upTo_nil, snocI, snocS, rowSnoc])))
end Go.Proofs.Ytgeegppaaggcjaa
end
section
namespace Go.Proofs.Ytgeegppaaggcjaa
open Go Go.Proofs.Ytgeegppaaggcjaa.Ab
set_option linter.unusedVariables false
set_option linter.unusedSimpArgs false
set_option maxHeartbeats 4000000
abbrev P_c_dAny (c : Cr) : Ct := ⟨29, [crO c], [.one (.ptr 0 0)], [crO (anyH c).2, .arr true 4 ((anyH c).1.items.map datumC)], .sv (datumR (anyH c).1 1)⟩
def lc_dAnyLa (c : Cr) : Lp Nat := .mk 45 1 (fun x => [(2, SV.one (AC.ptr 1 0)), (3, SV.one (AC.ptr 2 0)), (4, hs x 0)]) (fun x => [Ob.box [vL (List.map byteC (beC (drwH 4 c).snd
 12).b), vI (↑(beC (drwH 4 c).snd 12).i : Int), vI (beC (drwH 4 c).snd 12).h], Ob.box [vI 0, vI 0, vS (ByteArray.mk #[]), AC.val (Cell.lit (Value.slice none 0 0))], Ob.box [ha x 1,
 ha x 2, ha x 3, AC.ref 3], ho x 4]) (fun k => [.s (li (↑k : Int)), .a (vI (nestH k (drwH 4 c).fst).kind), .a (vI (nestH k (drwH 4 c).fst).number), .a (vS (nestH k (drwH 4
 c).fst).text), .o (Ob.arr true 4 (List.map datumC (nestH k (drwH 4 c).fst).items))]) (fun k => k ≤ 21) (fun k => 21 - k) [.mk True (.exit 1) (fun x => [(2, SV.one (AC.ptr 1 0)),
 (3, SV.one (AC.ptr 2 0))]) (fun x => [Ob.box [vL (List.map byteC (beC (drwH 4 c).snd 12).b), vI (↑(beC (drwH 4 c).snd 12).i : Int), vI (beC (drwH 4 c).snd 12).h], Ob.box [vI 0, vI
 0, vS (ByteArray.mk #[]), AC.val (Cell.lit (Value.slice none 0 0))], Ob.box [ha x 0, ha x 1, ha x 2, AC.ref 3], ho x 3]) [.a (vI (nestH 21 (drwH 4 c).fst).kind), .a (vI (nestH 21
 (drwH 4 c).fst).number), .a (vS (nestH 21 (drwH 4 c).fst).text), .o (Ob.arr true 4 (List.map datumC (nestH 21 (drwH 4 c).fst).items))]]
theorem Sc_dAnyLa (c : Cr) (h : okK c) : Lp.Sem Try.prog (loopAt Try.f29 0) (lc_dAnyLa c) := lpOK (fun k => .i ((↑k : Int) < 21) (.r ((↑k : Int) + 1) (.g [0, 1, 2, 4] (k + 1) [.s
 (li ((↑k : Int) + 1)), .a (vI 0), .a (vI 0), .a (vS (ByteArray.mk #[])), .o (Ob.arr true 4 [datumF (nestH k (drwH 4 c).fst)])])) (.o 0 [0, 1, 2, 3] [.a (vI (nestH k (drwH 4
 c).fst).kind), .a (vI (nestH k (drwH 4 c).fst).number), .a (vS (nestH k (drwH 4 c).fst).text), .o (Ob.arr true 4 (List.map datumC (nestH k (drwH 4 c).fst).items))])) (by
  intro k h; try dsimp only [teasy, nthW, lc_dAnyLa] at h ⊢
  have g1 := nestH_succ k (drwH 4 c).1
  with_reducible repeat' (first | apply And.intro | exact zR | (intro; skip) | apply c_dBelow | apply c_dPick | apply c_dInt | apply c_dDat)
  all_goals (try simp only [std, inj] at *)
  all_goals with_reducible repeat' apply And.intro
  all_goals (try (first | with_reducible apply c_dBelow | with_reducible apply c_dPick | with_reducible apply c_dInt | with_reducible apply c_dDat | (simp only [← List.map_append]; first | with_reducible apply c_dBelow | with_reducible apply c_dPick | with_reducible apply c_dInt | with_reducible apply c_dDat)))
  all_goals first
    | exact True.intro | with_reducible rfl | omega
    | (rw [g1]; first | done | rfl | (show _ = List.map datumC [_]; simp only [List.map_cons, List.map_nil, datumC_eq]; done))
    | (have e : k = 21 := by omega
       rw [e]))
theorem c_dAny (c : Cr) (h : okK c)  : P_c_dAny c := fnOK Try.call29 Try.func29 (.d [.ptr, .rd] (P_c_dDat 4 c) (.d [.ptr, .rd] (P_c_dBelow (drwH 4 c).snd 12) (.i (beX (drwH 4
 c).snd (12 : Int) = 0) (.d [.ptr, .own true 1] (P_c_dInt (beC (drwH 4 c).snd 12) [1, 2, 1000000000, (-1000000000 : Int)]) (.f [3] [Ob.box [vL (List.map byteC (beC (beC (drwH 4
 c).snd 12) 4).b), vI (↑(beC (beC (drwH 4 c).snd 12) 4).i : Int), vI (beC (beC (drwH 4 c).snd 12) 4).h], Ob.arr true 4 (List.map datumC (drwH 4 c).fst.items)] (AV.sv (SV.agg [vI
 (drwH 4 c).fst.kind, vI ([1, 2, 1000000000, (-1000000000 : Int)].getD (beX (beC (drwH 4 c).snd 12) 4).toNat 0), vS (drwH 4 c).fst.text, AC.ref 1])))) (.i (beX (drwH 4 c).snd (12 :
 Int) = 1) (.d [.ptr, .own true 1] (P_c_dPick (beC (drwH 4 c).snd 12) [ByteArray.mk #[], ByteArray.mk #[(57 : UInt8)], ByteArray.mk #[(45 : UInt8), (53 : UInt8)], ByteArray.mk
 #[(45 : UInt8)], ByteArray.mk #[(120 : UInt8), (32 : UInt8), (121 : UInt8)], ByteArray.mk #[(97 : UInt8), (98 : UInt8), (99 : UInt8), (100 : UInt8), (101 : UInt8), (102 : UInt8),
 (103 : UInt8), (104 : UInt8), (105 : UInt8), (106 : UInt8), (107 : UInt8), (108 : UInt8), (109 : UInt8), (110 : UInt8), (111 : UInt8), (112 : UInt8), (113 : UInt8)], ByteArray.mk
 #[(49 : UInt8), (50 : UInt8), (51 : UInt8), (52 : UInt8), (53 : UInt8), (54 : UInt8), (55 : UInt8), (56 : UInt8), (57 : UInt8), (48 : UInt8), (49 : UInt8), (50 : UInt8), (51 :
 UInt8), (52 : UInt8), (53 : UInt8), (54 : UInt8), (55 : UInt8), (56 : UInt8), (57 : UInt8), (48 : UInt8), (49 : UInt8)]]) (.f [3] [Ob.box [vL (List.map byteC (beC (beC (drwH 4
 c).snd 12) 7).b), vI (↑(beC (beC (drwH 4 c).snd 12) 7).i : Int), vI (beC (beC (drwH 4 c).snd 12) 7).h], Ob.arr true 4 (List.map datumC (drwH 4 c).fst.items)] (AV.sv (SV.agg [vI
 (drwH 4 c).fst.kind, vI (drwH 4 c).fst.number, vS ([ByteArray.mk #[], ByteArray.mk #[(57 : UInt8)], ByteArray.mk #[(45 : UInt8), (53 : UInt8)], ByteArray.mk #[(45 : UInt8)],
 ByteArray.mk #[(120 : UInt8), (32 : UInt8), (121 : UInt8)], ByteArray.mk #[(97 : UInt8), (98 : UInt8), (99 : UInt8), (100 : UInt8), (101 : UInt8), (102 : UInt8), (103 : UInt8),
 (104 : UInt8), (105 : UInt8), (106 : UInt8), (107 : UInt8), (108 : UInt8), (109 : UInt8), (110 : UInt8), (111 : UInt8), (112 : UInt8), (113 : UInt8)], ByteArray.mk #[(49 : UInt8),
 (50 : UInt8), (51 : UInt8), (52 : UInt8), (53 : UInt8), (54 : UInt8), (55 : UInt8), (56 : UInt8), (57 : UInt8), (48 : UInt8), (49 : UInt8), (50 : UInt8), (51 : UInt8), (52 :
 UInt8), (53 : UInt8), (54 : UInt8), (55 : UInt8), (56 : UInt8), (57 : UInt8), (48 : UInt8), (49 : UInt8)]].getD (beX (beC (drwH 4 c).snd 12) 7).toNat default), AC.ref 1])))) (.i
 (beX (drwH 4 c).snd (12 : Int) = 2) (.d [.ptr, .rd] (P_c_dBelow (beC (drwH 4 c).snd 12) 7) (.r (beX (beC (drwH 4 c).snd 12) 7 - 1) (.f [3] [Ob.box [vL (List.map byteC (beC (beC
 (drwH 4 c).snd 12) 7).b), vI (↑(beC (beC (drwH 4 c).snd 12) 7).i : Int), vI (beC (beC (drwH 4 c).snd 12) 7).h], Ob.arr true 4 (List.map datumC (drwH 4 c).fst.items)] (AV.sv
 (SV.agg [vI (beX (beC (drwH 4 c).snd 12) 7 - 1), vI (drwH 4 c).fst.number, vS (drwH 4 c).fst.text, AC.ref 1]))))) (.i (beX (drwH 4 c).snd (12 : Int) = 3) (.p (((List.map datumC
 (drwH 4 c).fst.items).length + 1) * 56 ≤ 140737488355328) (.f [6] [Ob.box [vL (List.map byteC (beC (drwH 4 c).snd 12).b), vI (↑(beC (drwH 4 c).snd 12).i : Int), vI (beC (drwH 4
 c).snd 12).h], Ob.arr true 4 (List.map datumC (drwH 4 c).fst.items ++ [[cI 9, cI 0, cS (ByteArray.mk #[]), Cell.list []]])] (AV.sv (SV.agg [vI (drwH 4 c).fst.kind, vI (drwH 4
 c).fst.number, vS (drwH 4 c).fst.text, AC.ref 1])))) (.i (beX (drwH 4 c).snd (12 : Int) = 4) (.l (lc_dAnyLa c) (Sc_dAnyLa c h) [0, 1, 4, 3] [.s (li 0), .a (vI (drwH 4
 c).fst.kind), .a (vI (drwH 4 c).fst.number), .a (vS (drwH 4 c).fst.text), .o (Ob.arr true 4 (List.map datumC (drwH 4 c).fst.items))] 0 (.t (.f [3] [Ob.box [vL (List.map byteC (beC
 (drwH 4 c).snd 12).b), vI (↑(beC (drwH 4 c).snd 12).i : Int), vI (beC (drwH 4 c).snd 12).h], Ob.arr true 4 (List.map datumC (nestH 21 (drwH 4 c).fst).items)] (AV.sv (SV.agg [vI
 (nestH 21 (drwH 4 c).fst).kind, vI (nestH 21 (drwH 4 c).fst).number, vS (nestH 21 (drwH 4 c).fst).text, AC.ref 1]))) .q)) (.f [3] [Ob.box [vL (List.map byteC (beC (drwH 4 c).snd
 12).b), vI (↑(beC (drwH 4 c).snd 12).i : Int), vI (beC (drwH 4 c).snd 12).h], Ob.arr true 4 (List.map datumC (drwH 4 c).fst.items)] (AV.sv (SV.agg [vI (drwH 4 c).fst.kind, vI
 (drwH 4 c).fst.number, vS (drwH 4 c).fst.text, AC.ref 1])))))))))) (by
  dsimp only [teasy, P_c_dAny, nthW, lc_dAnyLa]
  have ok1 : okK (drwH 4 c).2 := drwH_ok h
  have ok2 : okK (beC (drwH 4 c).2 12) := beC_ok ok1
  have b12 := beX_le (drwH 4 c).2 (n := 12) (by decide)
  have b7 := beX_le (beC (drwH 4 c).2 12) (n := 7) (by decide)
  have w := (drwD_ok 4 c h).1
  rw [← show drwH 4 c = drwD 4 c from drwH_eq 4 c] at w
  have w1 := wD_eq (drwH 4 c).1
  have f0 := @any_0 c
  have f1 := @any_1 c
  have f2 := @any_2 c
  have f3 := @any_3 c
  have f4 := @any_4 c
  have f5 := @any_5 c
  have n0 := nestH_zero (drwH 4 c).1
  simp only [badN, badL] at f0 f1
  with_reducible repeat' (first | apply And.intro | exact zR | (intro; skip) | apply c_dBelow | apply c_dPick | apply c_dInt | apply c_dDat)
  all_goals (try simp only [std, inj] at *)
  all_goals with_reducible repeat' apply And.intro
  all_goals (try (first | with_reducible apply c_dBelow | with_reducible apply c_dPick | with_reducible apply c_dInt | with_reducible apply c_dDat | (simp only [← List.map_append]; first | with_reducible apply c_dBelow | with_reducible apply c_dPick | with_reducible apply c_dInt | with_reducible apply c_dDat)))
  all_goals first
    | exact True.intro | with_reducible rfl | with_reducible assumption | exact ⟨h, by omega, by omega⟩ | exact ⟨h, by decide⟩ | omega | exact h | exact Nat.succ_pos _ | decide
    | (rw [f0 (by omega)]; first | done | rfl)
    | (rw [f1 (by omega)]; first | done | rfl)
    | (rw [f2 (by omega)]; first | done | rfl)
    | (rw [f3 (by omega)]; first | done | rfl | (rw [List.map_append, List.map_cons, List.map_nil, datumC_eq ⟨9, 0, mkS [], []⟩]; rfl))
    | (rw [f4 (by omega)]; first | done | rfl)
    | (rw [f5 (by omega)]; first | done | rfl)
    | (rw [n0]; first | done | rfl)
    | rfl
    | skip)
abbrev P_c_dSome (c : Cr) : Ct := ⟨27, [crO c], [.one (.ptr 0 0)], crO (smH c).2 :: coreO (smH c).1, .sv (coreR (smH c).1 1)⟩
theorem c_dSome (c : Cr) (h : okK c)  : P_c_dSome c := fnOK Try.call27 Try.func27 (.d [.ptr, .rd] (P_c_dBelow c 3) (.d [.ptr, .rd] (P_c_dBelow (beC c 3) 3) (.r (2 + beX (beC c 3)
 3) (.d [.ptr, .rd, .rd] (P_c_dCor (2 + beX (beC c 3) 3) (beC (beC c 3) 3) (beX c 3) []) (.f [5, 6, 7] [Ob.box [vL (List.map byteC (corH (2 + beX (beC c 3) 3) (Mk.mk (beC (beC c 3)
 3) (beX c 3)) []).snd.c.b), vI (↑(corH (2 + beX (beC c 3) 3) (Mk.mk (beC (beC c 3) 3) (beX c 3)) []).snd.c.i : Int), vI (corH (2 + beX (beC c 3) 3) (Mk.mk (beC (beC c 3) 3) (beX c
 3)) []).snd.c.h], Ob.arr true 1 (List.map intC (corH (2 + beX (beC c 3) 3) (Mk.mk (beC (beC c 3) 3) (beX c 3)) []).fst.params), Ob.arr true 4 (List.map datumC (corH (2 + beX (beC
 c 3) 3) (Mk.mk (beC (beC c 3) 3) (beX c 3)) []).fst.datum.items), Ob.arr true 8 (List.map coreC (corH (2 + beX (beC c 3) 3) (Mk.mk (beC (beC c 3) 3) (beX c 3)) []).fst.kids)]
 (AV.sv (SV.agg [vI (corH (2 + beX (beC c 3) 3) (Mk.mk (beC (beC c 3) 3) (beX c 3)) []).fst.kind, vI (corH (2 + beX (beC c 3) 3) (Mk.mk (beC (beC c 3) 3) (beX c 3)) []).fst.number,
 AC.ref 1, vI (corH (2 + beX (beC c 3) 3) (Mk.mk (beC (beC c 3) 3) (beX c 3)) []).fst.datum.kind, vI (corH (2 + beX (beC c 3) 3) (Mk.mk (beC (beC c 3) 3) (beX c 3))
 []).fst.datum.number, vS (corH (2 + beX (beC c 3) 3) (Mk.mk (beC (beC c 3) 3) (beX c 3)) []).fst.datum.text, AC.ref 2, AC.ref 3]))))))) (by
  dsimp only [teasy, P_c_dSome]
  have ok1 : okK (beC c 3) := beC_ok h
  have b := beX_le c (n := 3) (by decide)
  have b2 := beX_le (beC c 3) (n := 3) (by decide)
  have g := smH_eq c
  with_reducible repeat' (first | apply And.intro | exact zR | (intro; skip) | apply c_dBelow | apply c_dCor)
  all_goals (try simp only [std, inj] at *)
  all_goals with_reducible repeat' apply And.intro
  all_goals (try (first | with_reducible apply c_dBelow | with_reducible apply c_dCor | (simp only [← List.map_append]; first | with_reducible apply c_dBelow | with_reducible apply c_dCor)))
  all_goals first
    | exact True.intro | with_reducible rfl | with_reducible assumption | omega | exact beC_ok ok1 | exact ⟨beC_ok ok1, by omega, by omega, by show ((0 : Nat) : Int) + _ ≤ _; omega, by omega, by omega⟩
    | (rw [g]; first | done | rfl)
    | (show ((0 : Nat) : Int) + _ ≤ _; omega)
    | skip)
abbrev P_c_dAyC (c : Cr) : Ct := ⟨12, [crO c], [.one (.ptr 0 0)], crO (ayH c).2 :: coreO (ayH c).1, .sv (coreR (ayH c).1 1)⟩
theorem c_dAyC (c : Cr) (h : okK c)  : P_c_dAyC c := fnOK Try.call12 Try.func12 (.d [.ptr] (P_c_dSome c) (.d [.ptr, .rd] (P_c_dBelow (smH c).snd 14) (.i (beX (smH c).snd (14 : Int)
 = 0) (.d [.ptr, .own true 1] (P_c_dInt (beC (smH c).snd 14) [1, (-1 : Int), 99999, 100000]) (.f [3, 4, 5] [Ob.box [vL (List.map byteC (beC (beC (smH c).snd 14) 4).b), vI (↑(beC
 (beC (smH c).snd 14) 4).i : Int), vI (beC (beC (smH c).snd 14) 4).h], Ob.arr true 1 (List.map intC (smH c).fst.params), Ob.arr true 4 (List.map datumC (smH c).fst.datum.items),
 Ob.arr true 8 (List.map coreC (smH c).fst.kids)] (AV.sv (SV.agg [vI (smH c).fst.kind, vI ([1, (-1 : Int), 99999, 100000].getD (beX (beC (smH c).snd 14) 4).toNat 0), AC.ref 1, vI
 (smH c).fst.datum.kind, vI (smH c).fst.datum.number, vS (smH c).fst.datum.text, AC.ref 2, AC.ref 3])))) (.i (beX (smH c).snd (14 : Int) = 1) (.w (.draw [(3, [0]), (5, [3, 15]),
 (7, [6])]) (.d [.ptr, .rd] (P_c_dBelow (beC (smH c).snd 14) 3) (.p (((List.map intC (smH c).fst.params).length + 1) * 8 ≤ 140737488355328) (.f [16, 4, 5] [Ob.box [vL (List.map
 byteC (beC (beC (smH c).snd 14) 3).b), vI (↑(beC (beC (smH c).snd 14) 3).i : Int), vI (beC (beC (smH c).snd 14) 3).h], Ob.arr true 1 (List.map intC (smH c).fst.params ++ [[cI (beX
 (beC (smH c).snd 14) 3)]]), Ob.arr true 4 (List.map datumC (smH c).fst.datum.items), Ob.arr true 8 (List.map coreC (smH c).fst.kids)] (AV.sv (SV.agg [vI (smH c).fst.kind, vI (smH
 c).fst.number, AC.ref 1, vI (smH c).fst.datum.kind, vI (smH c).fst.datum.number, vS (smH c).fst.datum.text, AC.ref 2, AC.ref 3])))))) (.i (beX (smH c).snd (14 : Int) = 2) (.p
 (((List.map coreC (smH c).fst.kids).length + 1) * 120 ≤ 140737488355328) (.f [3, 4, 8] [Ob.box [vL (List.map byteC (beC (smH c).snd 14).b), vI (↑(beC (smH c).snd 14).i : Int), vI
 (beC (smH c).snd 14).h], Ob.arr true 1 (List.map intC (smH c).fst.params), Ob.arr true 4 (List.map datumC (smH c).fst.datum.items), Ob.arr true 8 (List.map coreC (smH c).fst.kids
 ++ [[cI 2, cI 7, Cell.list [], cI 0, cI 0, cS (ByteArray.mk #[]), Cell.list [], Cell.list []]])] (AV.sv (SV.agg [vI (smH c).fst.kind, vI (smH c).fst.number, AC.ref 1, vI (smH
 c).fst.datum.kind, vI (smH c).fst.datum.number, vS (smH c).fst.datum.text, AC.ref 2, AC.ref 3])))) (.i (beX (smH c).snd (14 : Int) = 3) (.d [.ptr, .rd] (P_c_dBelow (beC (smH
 c).snd 14) 14) (.r (beX (beC (smH c).snd 14) 14 - 1) (.f [3, 4, 5] [Ob.box [vL (List.map byteC (beC (beC (smH c).snd 14) 14).b), vI (↑(beC (beC (smH c).snd 14) 14).i : Int), vI
 (beC (beC (smH c).snd 14) 14).h], Ob.arr true 1 (List.map intC (smH c).fst.params), Ob.arr true 4 (List.map datumC (smH c).fst.datum.items), Ob.arr true 8 (List.map coreC (smH
 c).fst.kids)] (AV.sv (SV.agg [vI (beX (beC (smH c).snd 14) 14 - 1), vI (smH c).fst.number, AC.ref 1, vI (smH c).fst.datum.kind, vI (smH c).fst.datum.number, vS (smH
 c).fst.datum.text, AC.ref 2, AC.ref 3]))))) (.i (beX (smH c).snd (14 : Int) = 4) (.d [.ptr] (P_c_dAny (beC (smH c).snd 14)) (.f [3, 8, 5] [Ob.box [vL (List.map byteC (anyH (beC
 (smH c).snd 14)).snd.b), vI (↑(anyH (beC (smH c).snd 14)).snd.i : Int), vI (anyH (beC (smH c).snd 14)).snd.h], Ob.arr true 1 (List.map intC (smH c).fst.params), Ob.arr true 4
 (List.map datumC (anyH (beC (smH c).snd 14)).fst.items), Ob.arr true 8 (List.map coreC (smH c).fst.kids)] (AV.sv (SV.agg [vI (smH c).fst.kind, vI (smH c).fst.number, AC.ref 1, vI
 (anyH (beC (smH c).snd 14)).fst.kind, vI (anyH (beC (smH c).snd 14)).fst.number, vS (anyH (beC (smH c).snd 14)).fst.text, AC.ref 2, AC.ref 3])))) (.i (beX (smH c).snd (14 : Int) =
 5) (.w (.draw [(3, [3, 4, 5, 7, 8, 9]), (5, [6])]) (.d [.rd] (P_c_sCopyC (smH c).fst) (.w (.ghost (.nilbox 1 2 true 1)) (.w (.ghost (.nilbox 1 6 true 4)) (.f [16, 17, 15] [Ob.box
 [vL (List.map byteC (beC (smH c).snd 14).b), vI (↑(beC (smH c).snd 14).i : Int), vI (beC (smH c).snd 14).h], Ob.arr true 1 [], Ob.arr true 4 [], Ob.arr true 8 [coreF (smH c).fst,
 coreF (smH c).fst]] (AV.sv (SV.agg [vI 6, vI 0, AC.ref 1, vI 0, vI 0, vS (ByteArray.mk #[]), AC.ref 2, AC.ref 3]))))))) (.f [3, 4, 5] [Ob.box [vL (List.map byteC (beC (smH c).snd
 14).b), vI (↑(beC (smH c).snd 14).i : Int), vI (beC (smH c).snd 14).h], Ob.arr true 1 (List.map intC (smH c).fst.params), Ob.arr true 4 (List.map datumC (smH c).fst.datum.items),
 Ob.arr true 8 (List.map coreC (smH c).fst.kids)] (AV.sv (SV.agg [vI (smH c).fst.kind, vI (smH c).fst.number, AC.ref 1, vI (smH c).fst.datum.kind, vI (smH c).fst.datum.number, vS
 (smH c).fst.datum.text, AC.ref 2, AC.ref 3]))))))))))) (by
  dsimp only [teasy, P_c_dAyC]
  have o1 := smH_ok h
  have ok1 := o1.1
  have ok2 : okK (beC (smH c).2 14) := beC_ok ok1
  have b := beX_le (smH c).2 (n := 14) (by decide)
  have b3 := beX_le (beC (smH c).2 14) (n := 14) (by decide)
  have w := wC_eq (smH c).1
  have f0 := @ay_0 c
  have f1 := @ay_1 c
  have f2 := @ay_2 c
  have f3 := @ay_3 c
  have f4 := @ay_4 c
  have f5 := @ay_5 c
  have f6 := @ay_6 c
  simp only [numB] at f0
  with_reducible repeat' (first | apply And.intro | exact zR | (intro; skip) | apply c_dBelow | apply c_dInt | apply c_dAny | apply c_dSome | apply c_sCopyC)
  all_goals (try simp only [std, inj] at *)
  all_goals with_reducible repeat' apply And.intro
  all_goals (try (first | with_reducible apply c_dBelow | with_reducible apply c_dInt | with_reducible apply c_dAny | with_reducible apply c_dSome | with_reducible apply c_sCopyC | (simp only [← List.map_append]; first | with_reducible apply c_dBelow | with_reducible apply c_dInt | with_reducible apply c_dAny | with_reducible apply c_dSome | with_reducible apply c_sCopyC)))
  all_goals first
    | exact True.intro | with_reducible rfl | with_reducible assumption | exact ⟨by with_reducible assumption, by decide⟩ | omega | exact Nat.succ_pos _ | decide
    | (rw [f0 (by omega)]; first | done | rfl)
    | (rw [f1 (by omega)]; first | done | rfl | exact (map_one _ _).symm)
    | (rw [f2 (by omega)]; first | done | rfl | (simp only [coreO, List.map_append, List.map_cons, List.map_nil, coreC_eq]; rfl))
    | (rw [f3 (by omega)]; first | done | rfl)
    | (rw [f4 (by omega)]; first | done | rfl)
    | (rw [f5 (by omega)]; first | done | rfl | (show _ = List.map coreC [_, _]; simp only [List.map_cons, List.map_nil, coreC_eq]; done))
    | (rw [f6 (by omega)]; first | done | rfl)
    | skip)
def apA (b : List UInt8) : Core := (ayH (newC b)).1
def apC (b : List UInt8) : Cr := (ayH (newC b)).2
def apB (b : List UInt8) : Core := if beX (apC b) 2 = 0 then rnC (apA b) (beX (beC (apC b) 2) 40) else (ayH (beC (apC b) 2)).1
abbrev P_c_dAlp (b : List UInt8) : Ct := ⟨4, [], [ll (b.map byteC)], coreO (apA b) ++ coreO (apB b), .tup [coreR (apA b) 0, coreR (apB b) 3]⟩
theorem c_dAlp (b : List UInt8) (h : b.length ≤ 1048576)  : P_c_dAlp b := fnOK Try.call4 Try.func4 (.d [.rd] (P_c_dNew b) (.d [.ptr] (P_c_dAyC (newC b)) (.d [.ptr, .rd] (P_c_dOnce
 (ayH (newC b)).snd 2) (.i (beX (ayH (newC b)).snd (2 : Int) = 0) (.w (.draw [(2, [2]), (8, [24])]) (.d [.ptr, .rd] (P_c_dBelow (beC (ayH (newC b)).snd 2) 40) (.d [.rd, .rd]
 (P_c_sRenum (ayH (newC b)).fst (beX (beC (ayH (newC b)).snd 2) 40)) (.w (.draw [(2, [0]), (3, [1])]) (.f [4, 5, 6, 16, 17, 18] [Ob.arr true 1 (List.map intC (ayH (newC
 b)).fst.params), Ob.arr true 4 (List.map datumC (ayH (newC b)).fst.datum.items), Ob.arr true 8 (List.map coreC (ayH (newC b)).fst.kids), Ob.arr true 1 (List.map intC (rnC (ayH
 (newC b)).fst (beX (beC (ayH (newC b)).snd 2) 40)).params), Ob.arr true 4 (List.map datumC (rnC (ayH (newC b)).fst (beX (beC (ayH (newC b)).snd 2) 40)).datum.items), Ob.arr true 8
 (List.map coreC (rnC (ayH (newC b)).fst (beX (beC (ayH (newC b)).snd 2) 40)).kids)] (AV.tup [SV.agg [vI (ayH (newC b)).fst.kind, vI (ayH (newC b)).fst.number, AC.ref 0, vI (ayH
 (newC b)).fst.datum.kind, vI (ayH (newC b)).fst.datum.number, vS (ayH (newC b)).fst.datum.text, AC.ref 1, AC.ref 2], SV.agg [vI (rnC (ayH (newC b)).fst (beX (beC (ayH (newC
 b)).snd 2) 40)).kind, vI (rnC (ayH (newC b)).fst (beX (beC (ayH (newC b)).snd 2) 40)).number, AC.ref 3, vI (rnC (ayH (newC b)).fst (beX (beC (ayH (newC b)).snd 2) 40)).datum.kind,
 vI (rnC (ayH (newC b)).fst (beX (beC (ayH (newC b)).snd 2) 40)).datum.number, vS (rnC (ayH (newC b)).fst (beX (beC (ayH (newC b)).snd 2) 40)).datum.text, AC.ref 4, AC.ref
 5]])))))) (.w (.draw [(2, [2]), (3, [0]), (4, [1])]) (.d [.ptr] (P_c_dAyC (beC (ayH (newC b)).snd 2)) (.f [4, 5, 6, 9, 10, 11] [Ob.arr true 1 (List.map intC (ayH (newC
 b)).fst.params), Ob.arr true 4 (List.map datumC (ayH (newC b)).fst.datum.items), Ob.arr true 8 (List.map coreC (ayH (newC b)).fst.kids), Ob.arr true 1 (List.map intC (ayH (beC
 (ayH (newC b)).snd 2)).fst.params), Ob.arr true 4 (List.map datumC (ayH (beC (ayH (newC b)).snd 2)).fst.datum.items), Ob.arr true 8 (List.map coreC (ayH (beC (ayH (newC b)).snd
 2)).fst.kids)] (AV.tup [SV.agg [vI (ayH (newC b)).fst.kind, vI (ayH (newC b)).fst.number, AC.ref 0, vI (ayH (newC b)).fst.datum.kind, vI (ayH (newC b)).fst.datum.number, vS (ayH
 (newC b)).fst.datum.text, AC.ref 1, AC.ref 2], SV.agg [vI (ayH (beC (ayH (newC b)).snd 2)).fst.kind, vI (ayH (beC (ayH (newC b)).snd 2)).fst.number, AC.ref 3, vI (ayH (beC (ayH
 (newC b)).snd 2)).fst.datum.kind, vI (ayH (beC (ayH (newC b)).snd 2)).fst.datum.number, vS (ayH (beC (ayH (newC b)).snd 2)).fst.datum.text, AC.ref 4, AC.ref 5]])))))))) (by
  dsimp only [teasy, P_c_dAlp]
  have o0 := newC_ok h
  have o1 := ayH_ok o0
  have o2 : okK (beC (apC b) 2) := beC_ok o1.1
  have g1 : beX (apC b) 2 = 0 → apB b = rnC (apA b) (beX (beC (apC b) 2) 40) := fun e => if_pos e
  have g2 : ¬ beX (apC b) 2 = 0 → apB b = (ayH (beC (apC b) 2)).1 := fun e => if_neg e
  with_reducible repeat' (first | apply And.intro | exact zR | (intro; skip) | apply c_dNew | apply c_dAyC | apply c_dOnce | apply c_sRenum | apply c_dBelow)
  all_goals (try simp only [std, inj] at *)
  all_goals with_reducible repeat' apply And.intro
  all_goals (try (first | with_reducible apply c_dNew | with_reducible apply c_dAyC | with_reducible apply c_dOnce | with_reducible apply c_sRenum | with_reducible apply c_dBelow | (simp only [← List.map_append]; first | with_reducible apply c_dNew | with_reducible apply c_dAyC | with_reducible apply c_dOnce | with_reducible apply c_sRenum | with_reducible apply c_dBelow)))
  all_goals first
    | exact True.intro | with_reducible rfl | with_reducible assumption | exact o1.1 | exact beC_ok o1.1 | omega
    | (have := o1.2; omega)
    | (rw [g1 (by assumption)]; first | done | rfl)
    | (rw [g2 (by assumption)]; first | done | rfl)
    | rfl
    | skip)
end Go.Proofs.Ytgeegppaaggcjaa
end
section
namespace Go.Proofs.Ytgeegppaaggcjaa
open Go Go.Proofs.Ytgeegppaaggcjaa.Ab
set_option linter.unusedVariables false
theorem alf_var {A B : List Int} {n m : Int} : decide (lookL A n = lookL B m ∧ (0 ≤ lookL A n ∨ n = m)) = decide (lookL B m = lookL A n ∧ (0 ≤ lookL B m ∨ m = n)) := by
  rw [decide_eq_decide]; constructor <;> (rintro ⟨h1, h2⟩; exact ⟨h1.symm, by omega⟩)
mutual
theorem alf_sym : ∀ (a b : Core) (A B : List Int), alf a b A B = alf b a B A
  | ⟨k, n, p, d, l⟩, ⟨k', n', p', d', l'⟩, A, B => by
    simp only [alf]
    rw [alfs_sym l l' (A ++ p) (B ++ p')]
    by_cases hk : k = k'
    · subst hk
      by_cases hd : d = d'
      · subst hd
        have e1 : decide (p.length = p'.length) = decide (p'.length = p.length) := decide_eq_decide.2 eq_comm
        have e2 : decide (l.length = l'.length) = decide (l'.length = l.length) := decide_eq_decide.2 eq_comm
        have e3 : decide (n = n') = decide (n' = n) := decide_eq_decide.2 eq_comm
        have e4 := alf_var (A := A) (B := B) (n := n) (m := n')
        rw [e1, e2, e3, e4]
      · have hd' : ¬ d' = d := fun e => hd e.symm
        simp [hd, hd']
    · have hk' : ¬ k' = k := fun e => hk e.symm
      simp [hk, hk']
theorem alfs_sym : ∀ (l m : List Core) (A B : List Int), alfs l m A B = alfs m l B A
  | x :: r, y :: t, A, B => by simp only [alfs, alf_sym x y, alfs_sym r t]
  | [], [], A, B => by simp [alfs]
  | [], _ :: _, A, B => by simp [alfs]
  | _ :: _, [], A, B => by simp [alfs]
end
mutual
theorem alf_refl : ∀ (a : Core) (A : List Int), alf a a A A = true
  | ⟨k, n, p, d, l⟩, A => by
    simp only [alf, alfs_refl l (A ++ p)]
    simp
theorem alfs_refl : ∀ (l : List Core) (A : List Int), alfs l l A A = true
  | [], A => by simp [alfs]
  | x :: r, A => by simp only [alfs, alf_refl x A, alfs_refl r A, Bool.and_self]
end
theorem lookN_ge {L : List Int} {n : Int} : ∀ k, k ≤ L.length → (0 ≤ lookN L n k ↔ n ∈ L.take k)
  | 0, _ => by simp [lookN]
  | k + 1, h => by
    have e : L.getD k default = L[k] := by simp [show k < L.length by omega]
    rw [List.take_succ_eq_append_getElem (by omega), List.mem_append, List.mem_singleton, ← lookN_ge k (by omega)]
    have eq : lookN L n (k + 1) = if L.getD k default = n then (k : Int) else lookN L n k := rfl
    rw [eq, e]
    split
    · rename_i h1; constructor
      · intro _; exact .inr h1.symm
      · intro _; omega
    · rename_i h1; constructor
      · intro h; exact .inl h
      · rintro (h | h)
        · exact h
        · exact absurd h.symm h1
theorem look_mem {L : List Int} {n : Int} : 0 ≤ lookL L n ↔ n ∈ L := by
  unfold lookL; rw [lookN_ge _ (Nat.le_refl _), List.take_length]
mutual
theorem alf_fre : ∀ (a b : Core) (A B o : List Int), alf a b A B = true → fre a A o = fre b B o ∧ sizeC a = sizeC b
  | ⟨k, n, p, d, l⟩, ⟨k', n', p', d', l'⟩, A, B, o, h => by
    simp only [alf, Bool.and_eq_true, decide_eq_true_eq] at h
    obtain ⟨⟨⟨⟨⟨rfl, h2⟩, h3⟩, rfl⟩, h5⟩, h6⟩ := h
    have e : (if (k = 2 ∨ k = 4) ∧ n ∉ A then addU o n else o) = (if (k = 2 ∨ k = 4) ∧ n' ∉ B then addU o n' else o) := by
      by_cases hk : k = 2 ∨ k = 4
      · rw [if_pos hk, decide_eq_true_eq] at h5
        have h7 := look_mem (L := A) (n := n)
        have h8 := look_mem (L := B) (n := n')
        by_cases hm : n ∈ A
        · have hm' : n' ∈ B := h8.1 (by rw [← h5.1]; exact h7.2 hm)
          rw [if_neg (fun c => c.2 hm), if_neg (fun c => c.2 hm')]
        · have hm' : n' ∉ B := fun c => hm (h7.1 (by rw [h5.1]; exact h8.2 c))
          have hn : n = n' := by
            rcases h5.2 with c | c
            · exact absurd (h7.1 c) hm
            · exact c
          rw [if_pos ⟨hk, hm⟩, if_pos ⟨hk, hm'⟩, hn]
      · rw [if_neg (fun c => hk c.1), if_neg (fun c => hk c.1)]
    have h9 := alfs_fre l l' (A ++ p) (B ++ p') (if (k = 2 ∨ k = 4) ∧ n' ∉ B then addU o n' else o) h3 h6
    simp only [fre, sizeC, e, h9.1, h9.2, and_self]
theorem alfs_fre : ∀ (l m : List Core) (A B o : List Int), l.length = m.length → alfs l m A B = true → fres l A o = fres m B o ∧ sizeCs l = sizeCs m
  | [], [], A, B, o, _, _ => by simp only [fres, sizeCs, and_self]
  | x :: r, y :: t, A, B, o, hl, h => by
    simp only [alfs, Bool.and_eq_true] at h
    have h1 := alf_fre x y A B o h.1
    have h2 := alfs_fre r t A B (fre y B o) (by simpa using hl) h.2
    simp only [fres, sizeCs, h1.1, h1.2, h2.1, h2.2, and_self]
  | [], _ :: _, _, _, _, hl, _ => by simp at hl
  | _ :: _, [], _, _, _, hl, _ => by simp at hl
end
theorem val_cor (a : Core) : isCor a (fre a [] []) = valC a := by
  simp only [isCor, valC]
  have : ((fre a [] []).all fun n => decide (n ∈ fre a [] [])) = true := by rw [List.all_eq_true]; intro n hn; exact decide_eq_true hn
  rw [this, Bool.and_true]
end Go.Proofs.Ytgeegppaaggcjaa
end
section
namespace Go.Proofs.Ytgeegppaaggcjaa
open Go Go.Proofs.Ytgeegppaaggcjaa.Ab
set_option linter.unusedVariables false
set_option linter.unusedSimpArgs false
set_option maxHeartbeats 4000000
abbrev P_c_LInts (a : List Int) (b : List Int) : Ct := ⟨8, [], [ll (a.map intC), ll (b.map intC)], [], .sv (lb (decide (a = b)))⟩
def lc_LIntsLa (a : List Int) (b : List Int) : Lp Nat := .mk 26 0 (fun x => [(0, ll (List.map intC a)), (1, ll (List.map intC b)), (12, li (↑(List.map intC a).length : Int)), (13,
 hs x 0)]) (fun x => []) (fun k => [.s (li (↑k : Int))]) (fun k => k ≤ a.length ∧ a.length ≤ 9223372036854775807 ∧ a.length = b.length ∧ List.take k a = List.take k b) (fun k =>
 a.length - k) [.mk (a = b) (.exit 0) (fun x => []) (fun x => []) [], .mk (a ≠ b) .ret (fun x => [(4, hs x 0)]) (fun x => []) [.s (lb false)]]
theorem Sc_LIntsLa (a : List Int) (b : List Int) : Lp.Sem Try.prog (loopAt Try.f8 0) (lc_LIntsLa a b) := lpOK (fun k => .i ((↑k : Int) < (↑(List.map intC a).length : Int)) (.w
 (.draw []) (.x (↑k : Int) (List.map intC a) [cI (a.getD k 0)] (.x (↑k : Int) (List.map intC b) [cI (b.getD k 0)] (.i (a.getD k (0 : Int) ≠ b.getD k 0) (.o 1 [] [.s (lb false)])
 (.r ((↑k : Int) + 1) (.g [] (k + 1) [.s (li ((↑k : Int) + 1))])))))) (.o 0 [] [])) (by
  intro k h; try dsimp only [teasy, nthW, lc_LIntsLa] at h ⊢
  with_reducible repeat' (first | apply And.intro | exact zR | (intro; skip))
  all_goals (try simp only [std, inj] at *)
  all_goals with_reducible repeat' apply And.intro
  all_goals (try (first | exact z | grind [take_eq, take_self, snocI, snocS, rowSnoc])))
theorem c_LInts (a b : List Int)  : P_c_LInts a b := fnOK Try.call8 Try.func8 (.z intC a (.z intC b (.i ((↑(List.map intC a).length : Int) ≠ (↑(List.map intC b).length : Int)) (.s
 (lb false)) (.z intC a (.l (lc_LIntsLa a b) (Sc_LIntsLa a b) [] [.s (li 0)] 0 (.t (.s (lb true)) (.t (.s (lb false)) .q))))))) (by
  dsimp only [teasy, P_c_LInts, nthW, lc_LIntsLa]
  with_reducible repeat' (first | apply And.intro | exact zR | (intro; skip))
  all_goals (try simp only [std, inj] at *)
  all_goals with_reducible repeat' apply And.intro
  all_goals (try (first | exact z | grind [snocI, snocS, rowSnoc])))
theorem sumBy_map {α : Type} (w : α → Nat) (g : α → α) : ∀ L : List α, (∀ x ∈ L, w (g x) = w x) → sumBy w (L.map g) = sumBy w L
  | [], _ => rfl
  | x :: r, h => by simp only [List.map_cons, sumBy, h x List.mem_cons_self, sumBy_map w g r fun y hy => h y (List.mem_cons_of_mem _ hy)]
theorem wC_ren (f : Int → Option Int) : ∀ c : Core, wC (ren f c) = wC c := by
  refine Core.ind fun c ih => ?_
  rw [ren_eq, wC_eq, wC_eq c]
  simp only [List.length_map, sumBy_map wC (ren f) c.kids ih]
theorem wC_rn (c : Core) (a : Int) : wC (rnC c a) = wC c := by
  unfold rnC; split
  · exact wC_ren _ c
  · rfl
theorem apA_w {b : List UInt8} (h : b.length ≤ 1048576) : wC (apA b) ≤ 400000 := (ayH_ok (newC_ok h)).2
theorem apB_w {b : List UInt8} (h : b.length ≤ 1048576) : wC (apB b) ≤ 400000 := by
  unfold apB; split
  · rw [wC_rn]; exact apA_w h
  · exact (ayH_ok (beC_ok (ayH_ok (newC_ok h)).1)).2
abbrev P_c_LAlf (b : List UInt8) : Ct := ⟨3, [], [ll (b.map byteC)], [], .sv (lb true)⟩
theorem c_LAlf (b : List UInt8)  : P_c_LAlf b := fnOK Try.call3 Try.func3 (.z byteC b (.i (1048576 < (↑(List.map byteC b).length : Int)) (.s (lb true)) (.d [.rd] (P_c_dAlp b) (.d
 [.rd, .rd] (P_c_iAlphaEqual (apA b) (apB b)) (.w (.draw []) (.d [.rd, .rd] (P_c_iAlphaEqual (apB b) (apA b)) (.i ((valC (apA b) && valC (apB b) && alf (apA b) (apB b) [] []) ≠
 (valC (apB b) && valC (apA b) && alf (apB b) (apA b) [] [])) (.y true (.s (lb false))) (.d [.rd, .rd] (P_c_iAlphaEqual (apA b) (apA b)) (.d [.rd] (P_c_sFree (apA b)) (.d [.rd,
 .rd] (P_c_sIsCore (apA b) (fre (apA b) [] [])) (.i ((valC (apA b) && valC (apA b) && alf (apA b) (apA b) [] []) ≠ isCor (apA b) (fre (apA b) [] [])) (.s (lb false)) (.w (.draw [])
 (.b (!(valC (apA b) && valC (apB b) && alf (apA b) (apB b) [] [])) (.s (lb true)) (.d [.rd] (P_c_iFree (apA b)) (.d [.rd] (P_c_iFree (apB b)) (.c [.rd, .rd] (c_LInts (fre (apA b)
 [] []) (fre (apB b) [] [])) (.i (fre (apA b) [] [] = fre (apB b) [] []) (.d [.rd] (P_c_iSizC (apA b)) (.d [.rd] (P_c_iSizC (apB b)) (.s (lb (decide ((↑(sizeC (apA b)) : Int) =
 (↑(sizeC (apB b)) : Int))))))) (.s (lb false))))))))))))))))))) (by
  dsimp only [teasy, P_c_LAlf]
  have w1 := @apA_w b
  have w2 := @apB_w b
  have s1 := alf_sym (apA b) (apB b) [] []
  have s2 := alf_refl (apA b) []
  have s3 := val_cor (apA b)
  have s4 := alf_fre (apA b) (apB b) [] [] []
  have s5 := fre_len (apA b) [] []
  have s6 := sizeC_wC (apA b)
  have s7 := sizeC_wC (apB b)
  with_reducible repeat' (first | apply And.intro | exact zR | (intro; skip) | apply c_dAlp | apply c_iAlphaEqual | apply c_sIsCore | apply c_sFree | apply c_iFree | apply c_iSizC)
  all_goals (try simp only [std, inj] at *)
  all_goals with_reducible repeat' apply And.intro
  all_goals (try (first | with_reducible apply c_dAlp | with_reducible apply c_iAlphaEqual | with_reducible apply c_sIsCore | with_reducible apply c_sFree | with_reducible apply c_iFree | with_reducible apply c_iSizC | (simp only [← List.map_append]; first | with_reducible apply c_dAlp | with_reducible apply c_iAlphaEqual | with_reducible apply c_sIsCore | with_reducible apply c_sFree | with_reducible apply c_iFree | with_reducible apply c_iSizC)))
  all_goals (try (first | exact zw | grind [snocI, snocS, rowSnoc])))
end Go.Proofs.Ytgeegppaaggcjaa
end
section
namespace Go.Proofs.Ytgeegppaaggcjaa.fnAlpha
open Go Go.ChangeShapes Go.WideShapes Go.ChangeAt Go.RowKit Go.Proofs.Ytgeegppaaggcjaa.Ab
set_option linter.unusedVariables false
theorem own : ownKnob Try.prog.godebug = none := by kernel_rfl
theorem laid : laidOutB Try.prog = true := by kernel_rfl
theorem rowed : mapsRowed Try.prog = true := by kernel_rfl
theorem sized : ((List.range Try.prog.types.size).all fun t => match Try.prog.underlying t with | some (.slice e) => decide (0 < Try.prog.cellsOf e) | _ => true) = true := by kernel_rfl
set_option maxRecDepth 100000 in
theorem lifted (os : Os) (started : os.Started) (H : Type) (enc : TypeId × Value → H) :
    ReturnsInHanded {} Try.checked os 3 .any (Rows.fnAlphaSpec.pre6 enc Try.prog Try.f3 Rows.fnAlphaRow.domain false) (Rows.fnAlphaSpec.post enc Try.prog Try.f3 false true false false) := by
  refine returnsInHanded_of_change (C := Try.checked) own started (by kernel_rfl) Try.func3
    (ChangeSpec.witness6 (enc := enc) (C := Try.checked) false ⟨#[], #[.slice none 0 0], []⟩ 12 (by kernel_rfl) (by kernel_rfl) (by kernel_rfl) (by kernel_rfl)) ?_
  intro W base args ds gs before hval0 hW hcnd _
  have hval : ∀ (j : Nat) t v, Try.f3.params[j]? = some t → args[j]? = some v → Value.okWide Try.prog W .any base t v := hval0
  have hW' := hW
  obtain ⟨p, q, hA0, hV, rfl, hfz, hnd⟩ := hW
  obtain ⟨rfl, rfl⟩ := trodVars_none hV
  have hA : DataW.TrodAll enc Try.prog W 0 (fun _ => true) true Try.f3.params.toList args.toList ds p := hA0
  rw [Try.params3] at hA hval
  have hA2 := hA
  clear hA0 hval0
  obtain ⟨v0, vs0, d0, ds0, p0, q0, hargs0, rfl, rfl, h0, r0⟩ := trodAll_cons hA
  obtain ⟨rfl, rfl, rfl⟩ := trodAll_nil r0
  obtain rfl : args = #[v0] := by cases args; simp_all
  obtain ⟨a0, c0⟩ := (let ⟨fuel, hf⟩ := h0; rd_slice (C := byteC) Try.underlying22 (by rw [show Try.prog.cellsOf 5 = 1 from by kernel_rfl]; decide) (fun a => by kernel_rfl) (fun m hm cs x h => rd_byte Try.underlying5 h) hf)
  have s0 : SVRel W (allI W) (obOf []) (ll (a0.map byteC)) v0 := one_rel (by obtain ⟨_, _, _, rfl⟩ := okWide_slice Try.underlying22 (hval 0 22 v0 rfl rfl); rfl) c0
  refine (CallOK.kept (w := W) (vals := #[v0]) (c_LAlf a0) (Kn.none (by kernel_rfl) (by kernel_rfl)) ⟨s0, trivial⟩).mono fun e W' ⟨he, hg, _⟩ => ?_
  subst he
  exact ⟨_, rfl, post_of_kept (pv := []) hW' (fun _ _ _ => (trodAll_cons_mk (shut_bool Try.underlying4 _) trodAll_mk0))
    (fun sp hsp => trodAll_kept laid rowed sized hg (by decide +kernel) hA2 fun y hy => hsp y (by simpa using hy)) (fun _ _ => rfl) rfl
    hg (ok_one (by kernel_rfl) rfl (okWide_bool_mk Try.underlying4 _))⟩
set_option maxRecDepth 100000 in
set_option maxHeartbeats 0 in
theorem facts : joinedFacts Try.pinned.checked.prog 3 Try.f3 Rows.fnAlphaSpec Rows.fnAlphaRow = true := by
  delta joinedFacts
  with_reducible repeat' apply and_i
  all_goals (first | with_reducible exact enters | (rw [makes]; kernel_rfl) | (rw [lifts]; kernel_rfl) | decide +kernel)
theorem over : Rows.fnAlphaRow.holds Try.pinned (OpenSpec.ofChange Rows.fnAlphaSpec) :=
  OpenClaim.holds_of_wide 3 Try.f3 rfl rfl rfl rfl rfl rfl rfl ⟨rfl, rfl, rfl, rfl, rfl⟩ rfl rfl rfl rfl rfl (by kernel_rfl) Try.func3 facts
    (of_decide_eq_true (by kernel_rfl)) (by unfold Func.isWrapper; first | (rw [if_pos (by decide +kernel)]; kernel_rfl) | (rw [if_neg (by decide +kernel)]; exact ⟨rfl, rfl⟩))
    (fun os started H enc _ => lifted os started H enc)
theorem proved : Rows.FnAlphaSaid :=
  over
end Go.Proofs.Ytgeegppaaggcjaa.fnAlpha
end
